/- known() as a told function: it leaves all that was there. known() as a told function. What the program's listed variables hold when the call begins; the start of the machine. ShellDecodes: for every text the call returns true; the text reads as it did. -/
import Derived.Test.YtjacmplknlploaaGreatDoorW36
import Derived.Test.YtjacmplknlploaaGreatDoorW18
import Derived.Test.YtjacmplknlploaaGreatDoorW27
import Derived.Test.YtjacmplknlploaaGreatDoorRows
import Derived.OpenShut
import Derived.Lib.LaidTab
import Derived.Test.YtjacmplknlploaaGreatDoorTie
import Derived.Test.YtjacmplknlploaaGreatDoorCards
import Derived.ProofKit
import Derived.Lay
import Derived.ChangeMaps5
import Derived.SevenTiedAt
set_option linter.all false
namespace Go.Am
open Go.Proofs

/-- The memory is as it was, but for new blocks. -/
structure Kept (w w' : World) : Prop where
  out : w'.os = w.os ∧ w'.output = w.output
  lt : w.heap.size ≤ w'.heap.size
  mem : ∀ i, i < w.heap.size → w'.heap[i]? = w.heap[i]?

theorem Kept.refl (w : World) : Kept w w := ⟨⟨rfl, rfl⟩, Nat.le_refl _, fun _ _ => rfl⟩

theorem Rel.kept {P : Program} {ng : Nat} {s : St} {w w' : World} {G : Gh} {own : Own} (h : Rel P ng s w G own) (hb : Kept w w') : Rel P ng s w' G own := by
  have hk : ∀ (b : Nat) x, w.heap[b]? = some x → w'.heap[b]? = some x := fun b x e => by
    rw [hb.mem b (Array.getElem?_eq_some_iff.1 e).1]; exact e
  have hsz := hb.lt
  constructor
  · intro id o hl hu
    exact (h.obj id o hl hu).keep (Gh.le3.refl G) ⟨fun b c ty f e => ⟨c, hk _ _ e, rfl, fun _ _ => rfl⟩, fun b x e _ _ => hk _ _ e⟩ (fun _ _ h => h)
  · intro b j v hv; obtain ⟨c, ty, f, h1, h2⟩ := h.imm b j v hv; exact ⟨c, ty, f, hk _ _ h1, h2⟩
  · intro b n hn; obtain ⟨c, ty, f, h1, h2⟩ := h.bsz b n hn; exact ⟨c, ty, f, hk _ _ h1, h2⟩
  · exact h.disj
  · exact h.ord
  · intro b j id c ty f hj hc
    have hlt := h.ownf b j id hj
    rw [hb.mem b hlt] at hc
    exact h.frz b j id c ty f hj hc
  · intro id p hp; have := h.locf id p hp; omega
  · intro b j id hj; have := h.ownf b j id hj; omega
  · exact h.two
  · exact h.suf
  · exact h.nodup
  · exact h.glob
  · exact h.unb
  · exact h.ownu
  · have hlt := h.old.lt
    exact ⟨⟨hb.out.1.trans h.old.out.1, hb.out.2.trans h.old.out.2⟩, fun i hi => by rw [hb.mem i (by omega)]; exact h.old.mem i hi, h.old.own, by omega⟩

/-- The cells of a variable. -/
def RoAt (w : World) (g : Nat) (cs : List AV) : Prop := ∃ c ty f, w.heap[g]? = some (.cells c ty f) ∧ ∀ G, RepL G cs c.toList

def G0 (w : World) : Gh := {
  loc := fun i => if i < 6 then some (i, 0) else none
  imm := fun b j => match w.heap[b]? with
    | some (.cells c _ _) => c[j]?
    | _ => none
  bsz := fun b => match w.heap[b]? with
    | some (.cells c _ _) => some c.size
    | _ => none
  unb := fun _ => false
  w0 := w }

/-- At the start: nothing but the program's variables. -/
theorem start_rel {P : Program} {s : St} {w : World} (h6 : 6 ≤ w.heap.size) (hn : 6 ≤ s.next) (hd : (s.objs.map Prod.fst).Nodup)
    (ho : ∀ id o, look s.objs id = some o → id < 6 ∧ ∃ cs, o = .ro cs ∧ (∀ a ∈ cs, a.one = true) ∧ RoAt w id cs) : Rel P 6 s w (G0 w) (fun _ _ => none) := by
  constructor
  · intro id o hl _
    obtain ⟨h1, cs, rfl, h2, c, ty, f, h3, h4⟩ := ho id o hl
    exact ⟨id, c, ty, f, by simp [G0, h1], h3, h4 _, h2, fun j v e => by simp only [G0, h3]; exact e, by simp only [G0, h3]⟩
  · intro b j v hv
    simp only [G0] at hv
    split at hv
    · rename_i c ty f hb; exact ⟨c, ty, f, hb, hv⟩
    · cases hv
  · intro b n hn
    simp only [G0] at hn
    split at hn
    · rename_i c ty f hb; cases hn; exact ⟨c, ty, f, hb, rfl⟩
    · cases hn
  · intro b j id h; cases h
  · intro b i j id v _ h; cases h
  · intro b j id c ty f h; cases h
  · intro id p hp
    simp only [G0] at hp
    split at hp
    · cases hp; exact ⟨by omega, by simp only; omega⟩
    · cases hp
  · intro b j id h; cases h
  · omega
  · intro b i j id h; cases h
  · exact hd
  · intro g hg; simp [G0, hg]
  · intro id h; cases h
  · intro b j id h; cases h
  · exact ⟨⟨rfl, rfl⟩, fun _ _ => rfl, fun _ _ _ h => (by cases h), Nat.le_refl _⟩

end Go.Am

namespace Go.Am
open Go.Proofs

def AV.lit : AV → Bool
  | .bool _ | .int .. | .str _ => true
  | _ => false

theorem RepV.lit {G H : Gh} {a : AV} {v : Value} (h : RepV G a v) (hl : a.lit = true) : RepV H a v := by
  cases h <;> first | (cases hl; done) | skip
  · exact .bool _
  · exact .int _ _
  · exact .str _ _ (by assumption)

theorem RepL.lit {G H : Gh} {l : List AV} {vs : List Value} (h : RepL G l vs) (hl : ∀ a ∈ l, a.lit = true) : RepL H l vs :=
  ⟨h.1, fun i a v e1 e2 => (h.2 i a v e1 e2).lit (hl a (List.mem_of_getElem? e1))⟩

/-- The program's variables, as the evaluation knows them. -/
def roLit : List (Nat × Obj) → Bool
  | [] => true
  | (i, .ro cs) :: r => Nat.blt i 6 && (cs.all AV.lit && roLit r)
  | _ => false

theorem y0_lit : roLit y0.objs = true := by kernel_rfl

theorem roLit_mem : ∀ {l : List (Nat × Obj)}, roLit l = true → ∀ {id : Nat} {o : Obj}, look l id = some o → id < 6 ∧ ∃ cs, o = .ro cs ∧ ∀ a ∈ cs, a.lit = true
  | [], _, id, o, h => by cases h
  | (i, .ro cs) :: r, hl, id, o, h => by
    simp only [roLit, Bool.and_eq_true] at hl
    simp only [look] at h
    split at h
    · rename_i e
      cases h
      refine ⟨by subst e; have := hl.1; simp [Nat.blt] at this; omega, cs, rfl, fun a ha => List.all_eq_true.1 hl.2.1 a ha⟩
    · exact roLit_mem hl.2.2 h
  | (i, .cells ..) :: r, hl, _, _, _ => by cases hl
  | (i, .arr ..) :: r, hl, _, _, _ => by cases hl
  | (i, .map _) :: r, hl, _, _, _ => by cases hl
  | (i, .tail _) :: r, hl, _, _, _ => by cases hl
  | (i, .loop ..) :: r, hl, _, _, _ => by cases hl
  | (i, .dfr) :: r, hl, _, _, _ => by cases hl

def GlobW (w : World) : Prop := 6 ≤ w.heap.size ∧ ∀ id cs, look y0.objs id = some (.ro cs) → RoAt w id cs

theorem AV.lit_one {a : AV} (h : a.lit = true) : a.one = true := by cases a <;> first | rfl | cases h

theorem start_y0 {w : World} (h : GlobW w) : Rel Tryz.prog 6 y0 w (G0 w) (fun _ _ => none) :=
  start_rel h.1 (by show 6 ≤ 100; omega) (by decide) (fun id o hl => by
    obtain ⟨h1, cs, rfl, h2⟩ := roLit_mem y0_lit hl
    exact ⟨h1, cs, rfl, fun a ha => AV.lit_one (h2 a ha), h.2 id cs hl⟩)

/-- known() returns true and leaves all that was there. -/
theorem known_does {w : World} (h : GlobW w) : Does Tryz.prog 9 #[] w (fun u w' => u = .bool true ∧ Kept w w') := by
  obtain ⟨s', hc⟩ := known_calls
  have hd := does_sound (memo_ok mk_ok) hc (start_y0 h) (us := []) ⟨rfl, fun i a v e => by simp at e⟩
  have key : ∀ u w', Post Tryz.prog 6 (G0 w) (.bool true) s' u w' → u = .bool true ∧ Kept w w' := by
    rintro u w' ⟨H, own', r1, r2, r3⟩
    have hw : H.w0 = w := r3.w0
    refine ⟨by cases r1; rfl, ⟨by have := r2.old.out; rw [hw] at this; exact this, by have := r2.old.lt; rw [hw] at this; exact this, fun i hi => by have := r2.old.mem i (by rw [hw]; exact hi); rw [hw] at this; exact this⟩⟩
  rcases hd with ⟨u, w', h1, h2⟩ | ⟨g, args', w1, h1, h2⟩
  · exact .inl ⟨u, w', h1, key u w' h2⟩
  · refine .inr ⟨g, args', w1, h1, Calls.mono h2 ?_⟩
    intro e w' he
    cases e with
    | returned u => exact key u w' he
    | panicked c => exact he
    | outgrown => exact he

open Classical in
noncomputable def spKnown (args : List AV) (s : St) : Option (AV × St) :=
  match args with
  | [] => if ∀ p ∈ y0.objs, look s.objs p.1 = some p.2 then some (.bool true, s) else none
  | _ => none

theorem look_mem_y0 {id : Nat} {o : Obj} (h : look y0.objs id = some o) : (id, o) ∈ y0.objs := look_some_mem h

theorem sp_known : SpOk Tryz.prog 6 9 spKnown := by
  intro args s v s' G own w us h hR hr
  unfold spKnown at h
  split at h
  case h_2 => cases h
  split at h
  case isFalse => cases h
  rename_i hall
  cases h
  have hus : us = [] := by have := hr.1; simpa using this.symm
  subst hus
  have hg : GlobW w := by
    refine ⟨?_, fun id cs hl => ?_⟩
    · have := (hR.locf 5 (5, 0) (hR.glob 5 (by omega))).2; simp only at this; omega
    · obtain ⟨h1, cs', e, h2⟩ := roLit_mem y0_lit hl
      cases e
      have hk := hall _ (look_mem_y0 hl)
      obtain ⟨b, c, ty, f, k1, k2, k3, k4, k5, k6⟩ := hR.objL hk (hR.glob id h1)
      rw [hR.glob id h1] at k1; cases k1
      exact ⟨c, ty, f, k2, fun H => k3.lit h2⟩
  have hd := known_does hg
  have key : ∀ u w', (u = .bool true ∧ Kept w w') → Post Tryz.prog 6 G (.bool true) s u w' := by
    rintro u w' ⟨rfl, hk⟩
    exact ⟨G, own, .bool true, hR.kept hk, Gh.le.refl G⟩
  rcases hd with ⟨u, w', h1, h2⟩ | ⟨g, args', w1, h1, h2⟩
  · exact .inl ⟨u, w', h1, key u w' h2⟩
  · refine .inr ⟨g, args', w1, h1, Calls.mono h2 ?_⟩
    intro e w' he
    cases e with
    | returned u => exact key u w' he
    | panicked c => exact he
    | outgrown => exact he

end Go.Am

namespace Go.Am
open Go.Proofs

/-! What reads as plain data is that data, cell for cell -/
section
variable {H : Type} {enc : TypeId × Value → H} {P : Program} {w : World} {base : Nat} {sp : Nat → Bool} {held : Bool}
mutual
def fl : DataW H → List Value
  | .lit (.bool b) => [.bool b]
  | .lit (.int k n) => [.int k n]
  | .lit (.string s) => [.string ⟨s.toArray⟩]
  | .agg ps => flL ps
  | _ => []
def flL : List (DataW H) → List Value
  | [] => []
  | d :: r => fl d ++ flL r
end

def packB (P : Program) : List Field → Nat → Nat → Bool
  | [], o, z => Nat.beq o z
  | f :: r, o, z => Nat.beq f.offset o && packB P r (o + P.cellsOf f.type) z
def flatB (P : Program) : Nat → TypeId → Bool
  | 0, _ => false
  | n + 1, t => match P.underlying t with
    | some .bool | some .string | some (.int _) => true
    | some (.struct fs) => packB P fs.toList 0 (P.cellsOf t) && fs.toList.all fun f => flatB P n f.type
    | some (.array k e) => Nat.beq (k * P.cellsOf e) (P.cellsOf t) && flatB P n e
    | _ => false

theorem flat_pack {cs : List Value} (T : TypeId → List Value → DataW H × List MemPlace → Prop) (hT : ∀ t c x, T t c x → c = fl x.1) : ∀ (l : List Field) (o z : Nat) (ys : List (DataW H × List MemPlace)), packB P l o z = true → ys.length = l.length → cs.length = z →
    (∀ (i : Nat) (f : Field) x, l[i]? = some f → ys[i]? = some x → T f.type ((cs.drop f.offset).take (P.cellsOf f.type)) x) → cs.drop o = flL (ys.map (·.1))
  | [], o, z, ys, hp, hl, hz, _ => by
    have hy : ys = [] := List.eq_nil_of_length_eq_zero (by simpa using hl)
    have : o = z := Nat.eq_of_beq_eq_true hp
    rw [hy, List.drop_of_length_le (by omega)]; rfl
  | f :: r, o, z, ys, hp, hl, hz, h => by
    simp only [packB, Bool.and_eq_true] at hp
    have ho : f.offset = o := Nat.eq_of_beq_eq_true hp.1
    match ys, hl with
    | y :: ys', hl =>
      have h0 := hT _ _ _ (h 0 f y rfl rfl)
      have ih := flat_pack T hT r (o + P.cellsOf f.type) z ys' hp.2 (by simpa using hl) hz (fun i f x hf hx => h (i + 1) f x hf hx)
      rw [List.map_cons, flL, ← ih, ← h0, ho, ← List.drop_drop, List.take_append_drop]

theorem flat_arr {cs : List Value} {c n : Nat} {xs : List (DataW H × List MemPlace)} (hcs : cs.length = n * c) (hx : xs.length = n)
    (h : ∀ (i : Nat) x, xs[i]? = some x → (cs.drop (i * c)).take c = fl x.1) : ∀ m i, i + m = n → cs.drop (i * c) = flL ((xs.drop i).map (·.1))
  | 0, i, hi => by
    have : i = n := by omega
    subst this
    rw [List.drop_of_length_le (by omega), List.drop_of_length_le (by omega)]; rfl
  | m + 1, i, hi => by
    obtain ⟨x, hxi⟩ : ∃ x, xs[i]? = some x := ⟨_, List.getElem?_eq_getElem (by omega)⟩
    have ih := flat_arr hcs hx h m (i + 1) (by omega)
    rw [drop_cons hxi, List.map_cons, flL, ← ih, ← h i x hxi, show (i + 1) * c = i * c + c by rw [Nat.succ_mul], ← List.drop_drop, List.take_append_drop]

theorem flat_of : ∀ (fuel n : Nat) (t : TypeId) (cs : List Value) (x : DataW H × List MemPlace), flatB P n t = true → DataW.trod enc P w base sp held fuel t cs = some x → cs = fl x.1
  | fuel, 0, _, _, _, hb, _ => by simp [flatB] at hb
  | fuel, n + 1, t, cs, x, hb, h => by
    simp only [flatB] at hb
    split at hb
    · rename_i hu; obtain ⟨b, rfl, rfl⟩ := DataW.trod_bool hu h; rfl
    · rename_i hu; obtain ⟨s, rfl, rfl, _⟩ := DataW.trod_string hu h; rfl
    · rename_i k hu; obtain ⟨z, rfl, rfl, _⟩ := DataW.trod_int hu h; rfl
    · rename_i fs hu
      rw [Bool.and_eq_true, List.all_eq_true] at hb
      obtain ⟨xs, m, rfl, rfl, hlen, hxl, hel⟩ := DataW.trod_struct hu h
      have := flat_pack (P := P) (cs := cs) (fun t c x => (∃ f ∈ fs.toList, f.type = t) ∧ DataW.trod enc P w base sp held m t c = some x)
        (fun t c x ⟨⟨f, hf, e⟩, hx⟩ => flat_of m n t c x (e ▸ hb.2 f hf) hx) fs.toList 0 _ xs hb.1 (by simpa using hxl) hlen
        (fun i f x hf hx => ⟨⟨f, List.mem_of_getElem? hf, rfl⟩, (hel i f (by simpa using hf)).trans hx⟩)
      simpa [fl] using this
    · rename_i k e hu
      rw [Bool.and_eq_true] at hb
      obtain ⟨xs, m, rfl, rfl, hlen, hxl, hel⟩ := DataW.trod_array hu h
      have hk : k * P.cellsOf e = P.cellsOf t := Nat.eq_of_beq_eq_true hb.1
      have := flat_arr (cs := cs) (c := P.cellsOf e) (n := k) (by omega) hxl (fun i x hx => flat_of m n e _ x hb.2 ((hel i (by have := (List.getElem?_eq_some_iff.1 hx).1; omega)).trans hx)) k 0 (by omega)
      simpa [fl] using this
    · cases hb
end

theorem laid_var {P : Program} {w : World} : ∀ {l : List (String × DataW Unit)} {ps : List MemPlace} {n : String} {d : DataW Unit}, DataW.LaidVars P w l ps → (n, d) ∈ l →
    ∃ g t cs fuel p, P.globalNamed n = some g ∧ (P.globals[g]?).map (·.type) = some t ∧ w.var? P n = some cs ∧ DataW.trod (fun _ => ()) P w 0 (fun _ => true) false fuel t cs.toList = some (d, p)
  | [], _, _, _, _, hm => by cases hm
  | (n', d') :: r, ps, n, d, h, hm => by
    obtain ⟨g, t, cs, fuel, p, q, h1, h2, h3, h4, h5, _⟩ := h
    rcases List.mem_cons.1 hm with e | hm
    · cases e; exact ⟨g, t, cs, fuel, p, h1, h2, h3, h4⟩
    · exact laid_var h5 hm

/-- A value of the machine that is no reference, in the model. -/
def toV : AV → Value
  | .bool b => .bool b
  | .int k n => .int k n
  | .str s => .string ⟨(s.map UInt8.ofNat).toArray⟩
  | _ => .bool false
def litB : AV → Bool
  | .bool _ | .int .. => true
  | .str s => s.all fun c => Nat.blt c 256
  | _ => false

theorem rep_lit {G : Gh} {a : AV} (h : litB a = true) : RepV G a (toV a) := by
  cases a with
  | bool b => exact .bool b
  | int k n => exact .int k n
  | str s =>
    refine .str s _ ?_
    simp only [litB, List.all_eq_true] at h
    show (s.map UInt8.ofNat).map UInt8.toNat = s
    rw [List.map_map]
    conv => rhs; rw [← List.map_id s]
    refine List.map_congr_left fun c hc => ?_
    have : c < 256 := blt_lt (h c hc)
    simp only [Function.comp_apply, id_eq]
    exact UInt8.toNat_ofNat_of_lt' this
  | _ => cases h

theorem repL_lit {G : Gh} {l : List AV} {vs : List Value} (h : l.all litB = true) (e : vs = l.map toV) : RepL G l vs := by
  subst e
  refine ⟨by simp, fun i a v h1 h2 => ?_⟩
  rw [List.getElem?_map, h1] at h2
  cases h2
  exact rep_lit (List.all_eq_true.1 h a (List.mem_of_getElem? h1))

/-- A listed variable holds its cells. -/
theorem ro_of {P : Program} {w : World} {l : List (String × DataW Unit)} {n : String} {d : DataW Unit} {g : Nat} {t : TypeId} {cs : List AV} (h : laidMet P l w) (hm : (n, d) ∈ l) (hg : P.globalNamed n = some g) (ht : (P.globals[g]?).map (·.type) = some t)
    (hf : flatB P 4 t = true) (hl : cs.all litB = true) (he : fl d = cs.map toV) : RoAt w g cs := by
  obtain ⟨ps, hv, _⟩ := h
  obtain ⟨g', t', c, fuel, p, h1, h2, h3, h4⟩ := laid_var hv hm
  obtain rfl := Option.some.inj (hg.symm.trans h1)
  obtain rfl := Option.some.inj (ht.symm.trans h2)
  have e := flat_of _ _ _ _ _ hf h4
  simp only [World.var?, h1, Option.bind_some] at h3
  split at h3
  · rename_i c' ty f hc
    cases h3
    exact ⟨c, ty, f, hc, fun G => repL_lit hl (e.trans he)⟩
  · cases h3

theorem y0_Fr : y0.Fr := ⟨by decide, fun i hi => by
  have : ∀ p ∈ y0.objs, p.1 < 100 := by decide
  cases hl : look y0.objs i with
  | none => rfl
  | some o => have := this _ (look_some_mem hl); simp only at this; have : y0.next = 100 := rfl; omega⟩

theorem kn_ok : ∀ s', Up y0 s' [] → spKnown [] s' = some (.bool true, s') := by
  intro s' hU
  have h : ∀ p ∈ y0.objs, look s'.objs p.1 = some p.2 := by
    intro p hp
    have hlt : p.1 < y0.next := by
      have : ∀ p ∈ y0.objs, p.1 < 100 := by decide
      exact this p hp
    rw [hU.keep p.1 hlt (by simp)]
    simp only [y0, List.mem_cons, List.not_mem_nil, or_false] at hp
    rcases hp with rfl | rfl | rfl | rfl | rfl <;> rfl
  simp only [spKnown, if_pos h]

theorem ro_at {w : World} {l : List (String × DataW Unit)} {n : String} {d : DataW Unit} {g : Nat} {cs : List AV} (h : laidMet Tryz.prog l w) (hm : (n, d) ∈ l) (hg : Tryz.prog.globalNamed n = some g)
    (ht : (Tryz.prog.globals[g]?).map (·.type) = some (((Tryz.prog.globals[g]?).map (·.type)).getD 0)) (hf : flatB Tryz.prog 4 (((Tryz.prog.globals[g]?).map (·.type)).getD 0) = true) (hl : cs.all litB = true) (he : fl d = cs.map toV) : RoAt w g cs :=
  ro_of h hm hg ht hf hl he

def roC : Obj → List AV
  | .ro cs => cs
  | _ => []

theorem glob_of {w : World} (h : laidMet Tryz.prog YtjacmplknlploaaGreatDoor.Rows.shellDecodesRow.laid w) : GlobW w := by
  have h0 : RoAt w 0 (roC z0) := ro_at (n := "replevin/object.usages") (d := YtjacmplknlploaaGreatDoor.Rows.laid_replevin_object_usages) h (by simp [YtjacmplknlploaaGreatDoor.Rows.shellDecodesRow]) (by kernel_rfl) (by kernel_rfl) (by kernel_rfl) (by kernel_rfl) (by kernel_rfl)
  have h2 : RoAt w 2 (roC z1) := ro_at (n := "internal/strconv.uint64pow10") (d := YtjacmplknlploaaGreatDoor.Rows.laid_internal_strconv_uint64pow10) h (by simp [YtjacmplknlploaaGreatDoor.Rows.shellDecodesRow]) (by kernel_rfl) (by kernel_rfl) (by kernel_rfl) (by kernel_rfl) (by kernel_rfl)
  have h3 : RoAt w 3 (roC z2) := ro_at (n := "replevin/sha256.initial") (d := YtjacmplknlploaaGreatDoor.Rows.laid_replevin_sha256_initial) h (by simp [YtjacmplknlploaaGreatDoor.Rows.shellDecodesRow]) (by kernel_rfl) (by kernel_rfl) (by kernel_rfl) (by kernel_rfl) (by kernel_rfl)
  have h4 : RoAt w 4 (roC z3) := ro_at (n := "replevin/access.shifts") (d := YtjacmplknlploaaGreatDoor.Rows.laid_replevin_access_shifts) h (by simp [YtjacmplknlploaaGreatDoor.Rows.shellDecodesRow]) (by kernel_rfl) (by kernel_rfl) (by kernel_rfl) (by kernel_rfl) (by kernel_rfl)
  have h5 : RoAt w 5 (roC z4) := ro_at (n := "replevin/sha256.constants") (d := YtjacmplknlploaaGreatDoor.Rows.laid_replevin_sha256_constants) h (by simp [YtjacmplknlploaaGreatDoor.Rows.shellDecodesRow]) (by kernel_rfl) (by kernel_rfl) (by kernel_rfl) (by kernel_rfl) (by kernel_rfl)
  refine ⟨?_, fun id cs hl => ?_⟩
  · obtain ⟨c, ty, f, hc, _⟩ := h5
    have := (Array.getElem?_eq_some_iff.1 hc).1
    omega
  · have hm := look_some_mem hl
    simp only [y0, List.mem_cons, List.not_mem_nil, or_false, Prod.mk.injEq] at hm
    rcases hm with ⟨rfl, e⟩ | ⟨rfl, e⟩ | ⟨rfl, e⟩ | ⟨rfl, e⟩ | ⟨rfl, e⟩
    · rw [← e] at h0; exact h0
    · rw [← e] at h2; exact h2
    · rw [← e] at h3; exact h3
    · rw [← e] at h4; exact h4
    · rw [← e] at h5; exact h5

/-- The call of ShellDecodes in the model. -/
theorem shellDecodes_calls {w : World} (h : GlobW w) (x : ByteArray) : Calls Tryz.prog 4 #[.string x] w fun e w' => e = .returned (.bool true) ∧ Kept w w' := by
  have hb : B256 (x.data.toList.map UInt8.toNat) := fun c hc => by
    obtain ⟨b, _, rfl⟩ := List.mem_map.1 hc
    exact UInt8.toNat_lt b
  obtain ⟨v, s', ⟨n, hn⟩, hv⟩ := w_ShellDecodes (k := fun v _ => v = .bool true) y0_Fr kn_ok hb (fun _ _ => rfl)
  subst hv
  have he : evCallF (EV spKnown) (ev (EV spKnown) n) 4 [.str (x.data.toList.map UInt8.toNat)] y0 = some (.bool true, s') := hn
  have hr : RepL (G0 w) [.str (x.data.toList.map UInt8.toNat)] [.string x] := ⟨rfl, fun i a u h1 h2 => by
    cases i with
    | zero => cases h1; cases h2; exact .str _ x rfl
    | succ i => simp at h1⟩
  have hc := ((calls_sound (EV_ok sp_known) (code_sound (EV_ok sp_known) n)).enter 4 _ _ _ _ _ _ w [.string x] he (start_y0 h) hr).2
  refine Calls.mono hc fun e w' he => ?_
  cases e with
  | returned u =>
    obtain ⟨H, own', r1, r2, r3⟩ := (he : Post Tryz.prog 6 (G0 w) (.bool true) s' u w')
    have hw : H.w0 = w := r3.w0
    refine ⟨by cases r1; rfl, ⟨by have := r2.old.out; rw [hw] at this; exact this, by have := r2.old.lt; rw [hw] at this; exact this, fun i hi => by have := r2.old.mem i (by rw [hw]; exact hi); rw [hw] at this; exact this⟩⟩
  | panicked c => exact absurd he id
  | outgrown => exact absurd he id
end Go.Am

namespace Go.Proofs.YtjacmplknlploaaGreatDoor
open Go.ChangeShapes Go.WideShapes Go.ChangeAt Go.RowKit Go.ChangeMaps

theorem own : ownKnob Tryz.prog.godebug = none := by kernel_rfl
theorem kept_but {w w' : World} (h : Am.Kept w w') (may : MemPlace → Prop) : w.keptBut w' may := by
  refine ⟨h.out.1, h.out.2, fun i hi => ?_⟩
  rw [h.mem i hi]
  cases w.heap[i]? with
  | none => rfl
  | some o =>
    cases o <;> first | exact ⟨rfl, rfl, rfl, fun _ _ => rfl⟩ | exact .inr ⟨rfl, rfl⟩ | rfl

set_option maxRecDepth 100000 in
theorem lifted (os : Os) (started : os.Started) (H : Type) (enc : TypeId × Value → H) :
    ReturnsInHanded {} Tryz.checked os 4 .any (fun w args => (Rows.shellDecodesSpec.pre enc Tryz.prog Tryz.f4 [] false w args ∧ laidMetH Tryz.prog Rows.shellDecodesRow.laid w) ∧ sizedMet enc Tryz.prog Tryz.f4 (OpenSpec.ofChange Rows.shellDecodesSpec) false w args)
      (Rows.shellDecodesSpec.post enc Tryz.prog Tryz.f4 false true false false) := by
  refine returnsInHanded_of_change_and (C := Tryz.checked) (X := fun w _ => laidMetH Tryz.prog Rows.shellDecodesRow.laid w) (fun _ _ _ hh h => h.of_heap hh) own started (by kernel_rfl) Tryz.func4
    (ChangeSpec.witness_shaped (enc := enc) (C := Tryz.checked) (os := os) (X := fun w _ => laidMetH Tryz.prog Rows.shellDecodesRow.laid w) false (World.laidAll Tryz.prog os Rows.shellDecodesRow.laid) #[.string ⟨#[]⟩] 8 (World.laidAll_os _ _ _)
      (World.shaped_of_ZipB (by kernel_rfl) (by kernel_rfl)) (by kernel_rfl) (by kernel_rfl) (by kernel_rfl)
      (by rw [MakeChecks.laidMetH_plain _ _ _ (by kernel_rfl)]; exact laidMet_laidAll _ (by kernel_rfl) (by kernel_rfl))) ?_
  intro W base args ds gs before hval0 hW _ _ hL _
  have hval : ∀ (j : Nat) t v, Tryz.f4.params[j]? = some t → args[j]? = some v → Value.okWide Tryz.prog W .any base t v := hval0
  have hW' := hW
  obtain ⟨p, q, hA0, hV, rfl, _, _⟩ := hW
  have hA : DataW.TrodAll enc Tryz.prog W 0 (fun _ => true) true Tryz.f4.params.toList args.toList ds p := hA0
  rw [Tryz.params4] at hA hval
  obtain ⟨v0, d0, rfl, rfl, h0⟩ := trodAll_one hA
  obtain ⟨rfl, rfl⟩ := trodVars_none hV
  obtain ⟨x, rfl, rfl, rfl, wx⟩ := open_string Tryz.underlying9 (hval 0 9 v0 rfl rfl) h0
  simp only [List.append_nil] at hW'
  rw [MakeChecks.laidMetH_plain _ _ _ (by kernel_rfl)] at hL
  refine (Am.shellDecodes_calls (Am.glob_of hL) x).mono fun e W' ⟨he, hb⟩ => ?_
  subst he
  exact ⟨_, rfl, _, _, _, [], [], [], hW', trodAll_mk1 (shut_bool Tryz.underlying4 _), trodAll_mk1 (shut_string Tryz.underlying9 wx), rfl, kept_but hb _, fun h => by cases h⟩
end Go.Proofs.YtjacmplknlploaaGreatDoor

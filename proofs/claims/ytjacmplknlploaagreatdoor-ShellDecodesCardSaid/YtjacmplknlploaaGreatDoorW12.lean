/- Walking: slices that grow. Short words for the code of functions, seen through. -/
import Derived.Test.YtjacmplknlploaaGreatDoorW11
import Derived.Test.YtjacmplknlploaaGreatDoorW00
set_option linter.all false
namespace Go.Am

/-- A slice with its elements; W: its claim. -/
def Slc (s : St) (ty sz : Nat) (v : AV) (xs : List AV) (W : List Nat) : Prop :=
  (v = .nsl ∧ xs = [] ∧ W = []) ∨ (v = .sl 1 sz xs ∧ W = []) ∨ ∃ t, v = .sl t sz xs ∧ 2 ≤ t ∧ look s.objs t = some (.tail ty) ∧ W = [t]

theorem Slc.nil {s : St} {ty sz : Nat} : Slc s ty sz .nsl [] [] := .inl ⟨rfl, rfl, rfl⟩

theorem Slc.up {s s' : St} {ty sz : Nat} {v : AV} {xs : List AV} {W V : List Nat} (h : Slc s ty sz v xs W) (hF : s.Fr) (hU : Up s s' V) (hd : ∀ i ∈ W, i ∉ V) : Slc s' ty sz v xs W := by
  rcases h with h | h | ⟨t, h1, h2, h3, h4⟩
  · exact .inl h
  · exact .inr (.inl h)
  · exact .inr (.inr ⟨t, h1, h2, hU.at hF h3 (hd t (by simp [h4])), h4⟩)

/-- A slice that is only read. -/
class Ls (v : AV) (sz : outParam Nat) (xs : outParam (List AV)) : Prop where
  h : (v = .nsl ∧ xs = []) ∨ ∃ t, v = .sl t sz xs
instance {t sz : Nat} {l : List AV} : Ls (.sl t sz l) sz l := ⟨.inr ⟨t, rfl⟩⟩
theorem Ls.nil {sz : Nat} : Ls .nsl sz [] := ⟨.inl ⟨rfl, rfl⟩⟩
theorem Slc.ls {s : St} {ty sz : Nat} {v : AV} {xs : List AV} {W : List Nat} (h : Slc s ty sz v xs W) : Ls v sz xs := by
  rcases h with ⟨h, h', _⟩ | ⟨h, _⟩ | ⟨t, h, _⟩
  · exact ⟨.inl ⟨h, h'⟩⟩
  · exact ⟨.inr ⟨1, h⟩⟩
  · exact ⟨.inr ⟨t, h⟩⟩
theorem Ls.cel {sz : Nat} {v : AV} {xs : List AV} (h : Ls v sz xs) : Cel v 1 [v] := by
  rcases h.h with ⟨rfl, _⟩ | ⟨t, rfl⟩ <;> infer_instance
theorem Ls.elems {sz : Nat} {v : AV} {xs : List AV} (h : Ls v sz xs) {l : List (Nat × Obj)} {ag : Bool} : elems l ag sz v = some xs := by
  rcases h.h with ⟨rfl, rfl⟩ | ⟨t, rfl⟩
  · rfl
  · simp [Am.elems]
theorem Slc.cel {s : St} {ty sz : Nat} {v : AV} {xs : List AV} {W : List Nat} (h : Slc s ty sz v xs W) : Cel v 1 [v] := by
  rcases h with ⟨rfl, _⟩ | ⟨rfl, _⟩ | ⟨t, rfl, _⟩ <;> infer_instance

/-- No claim is a light object. -/
theorem Slc.ne {s : St} {ty sz : Nat} {v : AV} {xs : List AV} {W : List Nat} (h : Slc s ty sz v xs W) {i : Nat} {o : Obj} (hl : look s.objs i = some o) (ho : o.light = true) : i ∉ W := by
  rcases h with ⟨_, _, h⟩ | ⟨_, h⟩ | ⟨t, _, _, h3, h4⟩
  · simp [h]
  · simp [h]
  · subst h4
    intro hi
    have : i = t := by simpa using hi
    subst this
    rw [hl] at h3; cases h3; cases ho

theorem Slc.lt {s : St} {ty sz : Nat} {v : AV} {xs : List AV} {W : List Nat} (h : Slc s ty sz v xs W) (hF : s.Fr) : ∀ i ∈ W, i < s.next := by
  rcases h with ⟨_, _, h⟩ | ⟨_, h⟩ | ⟨t, _, _, h3, h4⟩
  · simp [h]
  · simp [h]
  · subst h4
    intro i hi
    have : i = t := by simpa using hi
    subst this
    exact hF.lt h3

theorem Slc.out {s : St} {ty sz : Nat} {v : AV} {xs : List AV} {W : List Nat} (h : Slc s ty sz v xs W) (n : Nat) : Slc (s.out .some n) ty sz v xs W := by
  rcases h with h | h | ⟨t, h1, h2, h3, h4⟩
  · exact .inl h
  · exact .inr (.inl h)
  · exact .inr (.inr ⟨t, h1, h2, out_some rfl h3, h4⟩)

theorem Slc.outA {s : St} {ty sz : Nat} {v : AV} {xs : List AV} {W : List Nat} (h : Slc s ty sz v xs W) (n : Nat) : Slc (s.out .all n) ty sz v xs W := h

/-- Old claims outlive any return. -/
theorem Slc.outO {s s1 : St} {ty sz : Nat} {v : AV} {xs : List AV} {W : List Nat} (h : Slc s1 ty sz v xs W) {keep : Keep} (hW : ∀ i ∈ W, i < s.next) : Slc (s1.out keep s.next) ty sz v xs W := by
  rcases h with h | h | ⟨t, h1, h2, h3, h4⟩
  · exact .inl h
  · exact .inr (.inl h)
  · exact .inr (.inr ⟨t, h1, h2, by rw [out_lt (hW t (by simp [h4]))]; exact h3, h4⟩)

theorem mem1 {i n : Nat} (h : i ∈ [n]) : n ≤ i := by
  have : i = n := by simpa using h
  omega

/-- The claims are those that were, or new. -/
def NewW (s : St) (W W' : List Nat) : Prop := ∀ i ∈ W', i ∈ W ∨ s.next ≤ i

theorem NewW.refl {s : St} {W : List Nat} : NewW s W W := fun _ h => .inl h
theorem NewW.trans {s s1 : St} {W W1 W2 : List Nat} (h1 : NewW s W W1) (h2 : NewW s1 W1 W2) (hle : s.next ≤ s1.next) : NewW s W W2 := fun i hi => by
  rcases h2 i hi with h | h
  · exact h1 i h
  · exact .inr (Nat.le_trans hle h)
theorem NewW.trans0 {s s1 : St} {W W1 : List Nat} (h : NewW s1 W W1) (hle : s.next ≤ s1.next) : NewW s W W1 := fun i hi => (h i hi).imp_right (Nat.le_trans hle)
theorem NewW.not {s : St} {W W1 : List Nat} (h : NewW s W W1) {i : Nat} (hi : i < s.next) (hn : i ∉ W) : i ∉ W1 := fun hm => by
  rcases h i hm with h | h
  · exact hn h
  · omega
theorem Up.news {s s1 s2 : St} {V W W1 : List Nat} (h1 : Up s s1 V) (hN : NewW s W W1) (h2 : Up s1 s2 W1) (hV : ∀ i ∈ W, i ∈ V) : Up s s2 V :=
  h1.trans h2 fun i hi hn => ⟨hn, hN.not hi fun h => hn (hV i h)⟩
theorem Up.then0 {s s1 s2 : St} {V : List Nat} (h1 : Up s s1 V) (h2 : Up s1 s2 []) : Up s s2 V := h1.trans h2 fun _ _ hn => ⟨hn, by simp⟩
theorem Up.cons {s s1 s2 : St} {V : List Nat} {w : Nat} (h1 : Up s s1 V) (h2 : Up s1 s2 [w]) : Up s s2 (w :: V) :=
  h1.trans h2 fun _ _ hn => ⟨fun h => hn (List.mem_cons_of_mem _ h), fun h => hn (by simp at h; simp [h])⟩
theorem Up.zero {s s1 s2 : St} {V : List Nat} (h1 : Up s s1 []) (h2 : Up s1 s2 V) : Up s s2 V := h1.trans h2 fun _ _ hn => ⟨by simp, hn⟩

theorem app1 {s : St} {ty sz bytes : Nat} {ag : Bool} {v y : AV} {xs ys : List AV} {W : List Nat} (hF : s.Fr) (hS : Slc s ty sz v xs W) (hy : elems s.objs ag sz y = some ys)
    (hlen : (xs.length + ys.length) * (bytes + 1) ≤ maxL) (hall : (ys.all fun v => v.nt && decide (v.cells.length = sz)) = true) :
    ∃ v' s' W', evApp s 1 ty sz bytes ag v y = some (v', s') ∧ Up s s' W ∧ Slc s' ty sz v' (xs ++ ys) W' ∧ NewW s W W' := by
  cases ys with
  | nil =>
    refine ⟨v, s, W, ?_, (Up.refl hF).mono (fun _ _ h => by cases h), by rw [List.append_nil]; exact hS, fun i hi => .inl hi⟩
    rcases hS with ⟨rfl, _, _⟩ | ⟨rfl, _⟩ | ⟨t, rfl, h2, h3, _⟩
    · simp [evApp, hy]
    · simp [evApp, hy]
    · simp [evApp, hy]
  | cons y0 yr =>
    have hcond : (xs.length + (y0 :: yr).length) * (bytes + 1) ≤ maxL ∧ ((y0 :: yr).all fun v => v.nt && decide (v.cells.length = sz)) = true := ⟨hlen, hall⟩
    rcases hS with ⟨rfl, rfl, rfl⟩ | ⟨rfl, rfl⟩ | ⟨t, rfl, h2, h3, rfl⟩
    · refine ⟨_, _, [s.next], by simp only [evApp, hy, List.isEmpty, consume, Bool.false_eq_true, if_false, if_pos hcond], up_add hF _, .inr (.inr ⟨s.next, rfl, hF.two, look_add_self, rfl⟩), fun i hi => .inr (mem1 hi)⟩
    · refine ⟨_, _, [s.next], by simp only [evApp, hy, List.isEmpty, consume, Bool.false_eq_true, if_false, if_true, if_pos hcond], up_add hF _, .inr (.inr ⟨s.next, rfl, hF.two, look_add_self, rfl⟩), fun i hi => .inr (mem1 hi)⟩
    · have hU := up_del hF t
      refine ⟨_, _, [s.next], by simp only [evApp, hy, List.isEmpty, consume, Bool.false_eq_true, if_false, if_true, if_neg (show ¬ t = 1 by omega), if_pos h2, h3, if_pos hcond]; rfl, ?_, .inr (.inr ⟨s.next, rfl, hF.two, look_add_self (s := s.del t), rfl⟩), fun i hi => .inr (mem1 hi)⟩
      exact (hU.trans (up_add hU.fr _) fun i _ hn => ⟨hn, by simp⟩)

section
variable {E : Env} {N : Nat} {φ : Nat → AV} {s s' : St} {Q : X → (Nat → AV) → St → Prop} {K : (Nat → AV) → St → Prop} {d t f : Nat} {o : IOp} {r : List IStmt} {v : AV}

theorem s_app {ty sz bytes : Nat} {ag : Bool} {x y : Opd} {a b : AV} {xs ys : List AV} {W : List Nat} {c c' : Bool} [h0 : Ev N φ x a c] [h1 : Ev N φ y b c'] (hc : (c && c') = true) (hF : s.Fr) (hS : Slc s ty sz a xs W)
    (hy : elems s.objs ag sz b = some ys) (hlen : (xs.length + ys.length) * (bytes + 1) ≤ maxL) (hall : (ys.all fun v => v.nt && decide (v.cells.length = sz)) = true)
    (h : ∀ v' s' W', Up s s' W → Slc s' ty sz v' (xs ++ ys) W' → NewW s W W' → WpO E N r (upd' φ d v') s' K) : WpO E N (.op (some d) none (.app 1 ty sz bytes ag x y) :: r) φ s K := by
  rw [Bool.and_eq_true] at hc
  obtain ⟨v', s', W', e, h2, h3, h4⟩ := app1 (bytes := bytes) hF hS hy hlen hall
  exact wpO_op (by simp only [evOp, h0.h hc.1, h1.h hc.2, e]) (h v' s' W' h2 h3 h4)

/-- A new slice of one element. -/
theorem s_mk1 {ty sz : Nat} {zero : AV} {x : Opd} {cs : List AV} {c : Bool} [h0 : Ev N φ x v c] (hc : c = true) [h1 : Cel v sz cs] (hz : (zero.nt && (decide (zero.cells.length = sz) && decide (0 < sz))) = true) (hF : s.Fr)
    (h : ∀ s' t, Up s s' [] → Slc s' ty sz (.sl t sz [v]) [v] [t] → s.next ≤ t → WpO E N r (upd' φ d (.sl t sz [v])) s' K) : WpO E N (.op (some d) none (.mksl true ty sz zero 1 [(0, x)]) :: r) φ s K := by
  rw [Bool.and_eq_true, Bool.and_eq_true] at hz
  refine wpO_op (v := .sl s.next sz [v]) (s' := s.add (.tail ty)) ?_ (h _ s.next (up_add hF _) (.inr (.inr ⟨_, rfl, hF.two, look_add_self, rfl⟩)) (Nat.le_refl _))
  have e1 : v.cells.length = sz := by rw [h1.h.2.1]; exact h1.h.2.2
  simp only [evOp, if_pos (show zero.nt = true ∧ zero.cells.length = sz ∧ 0 < sz from ⟨hz.1, of_decide_eq_true hz.2.1, of_decide_eq_true hz.2.2⟩), fillE, h0.h hc, h1.h.1, e1, List.replicate_succ, List.replicate_zero, List.length_cons, List.length_nil, Nat.zero_add, Nat.zero_lt_succ, and_self, if_true, List.set_cons_zero]
theorem s_mk0 {ty sz : Nat} {zero : AV} (hz : (zero.nt && (decide (zero.cells.length = sz) && decide (0 < sz))) = true) (hF : s.Fr)
    (h : ∀ s' t, Up s s' [] → Slc s' ty sz (.sl t sz []) [] [t] → s.next ≤ t → WpO E N r (upd' φ d (.sl t sz [])) s' K) : WpO E N (.op (some d) none (.mksl true ty sz zero 0 []) :: r) φ s K := by
  rw [Bool.and_eq_true, Bool.and_eq_true] at hz
  refine wpO_op (v := .sl s.next sz []) (s' := s.add (.tail ty)) ?_ (h _ s.next (up_add hF _) (.inr (.inr ⟨_, rfl, hF.two, look_add_self, rfl⟩)) (Nat.le_refl _))
  simp only [evOp, if_pos (show zero.nt = true ∧ zero.cells.length = sz ∧ 0 < sz from ⟨hz.1, of_decide_eq_true hz.2.1, of_decide_eq_true hz.2.2⟩), fillE, List.replicate_zero, if_true]

theorem bnd {k : IntKind} {n : Int} {top : Nat} (h1 : 0 ≤ n) (h2 : n ≤ (top : Int)) : bound (.int k n) top = some n.toNat := by simp only [bound]; exact if_pos ⟨h1, h2⟩

/-- A part of a slice. -/
theorem s_sl {sz tg : Nat} {x y z : Opd} {l : List AV} {i j : Int} {k k' : IntKind} {c c1 c2 : Bool} [h0 : Ev N φ x (.sl tg sz l) c] [h1 : Ev N φ y (.int k i) c1] [h2 : Ev N φ z (.int k' j) c2] (hc : (c && (c1 && c2)) = true) (hi : 0 ≤ i ∧ i ≤ j ∧ j ≤ (l.length : Int))
    (h : WpO E N r (upd' φ d (.sl 0 sz ((l.take j.toNat).drop i.toNat))) s K) : WpO E N (.op (some d) none (.slsl sz x (some y) (some z)) :: r) φ s K := by
  rw [Bool.and_eq_true, Bool.and_eq_true] at hc
  refine wpO_op ?_ h
  simp only [evOp, h0.h hc.1, if_true, bounds, bHi, bLo, h1.h hc.2.1, h2.h hc.2.2, bnd (show 0 ≤ j by omega) hi.2.2]
  rw [bnd hi.1 (by omega)]
theorem s_slf {sz tg : Nat} {x y : Opd} {l : List AV} {i : Int} {k : IntKind} {c c1 : Bool} [h0 : Ev N φ x (.sl tg sz l) c] [h1 : Ev N φ y (.int k i) c1] (hc : (c && c1) = true) (hi : 0 ≤ i ∧ i ≤ (l.length : Int))
    (h : WpO E N r (upd' φ d (.sl 0 sz (l.drop i.toNat))) s K) : WpO E N (.op (some d) none (.slsl sz x (some y) none) :: r) φ s K := by
  rw [Bool.and_eq_true] at hc
  refine wpO_op ?_ h
  simp only [evOp, h0.h hc.1, if_true, bounds, bHi, bLo, h1.h hc.2, bnd hi.1 hi.2, List.take_length]
end

section
variable {N : Nat} {φ : Nat → AV}
instance {sz : Nat} {v : AV} {xs : List AV} {x : Opd} {c : Bool} [h0 : Ev N φ x v c] [h : Ls v sz xs] : Op N φ (.len false x) (.int .i64 (xs.length : Int)) c := by
  rcases h.h with ⟨rfl, rfl⟩ | ⟨t, rfl⟩ <;> infer_instance
variable {E : Env} {s s' : St} {Q : X → (Nat → AV) → St → Prop} {K : (Nat → AV) → St → Prop} {d t f : Nat} {o : IOp} {r : List IStmt} {v : AV}
theorem ixl {sz : Nat} {x y : Opd} {a : AV} {l : List AV} {i : Int} {j : IntKind} {cs : List AV} {c c' : Bool} [h0 : Ev N φ x a c] [h1 : Ev N φ y (.int j i) c'] [hl : Ls a sz l] (hc : (c && c') = true) (hi : 0 ≤ i) (he : l[i.toNat]? = some v) [hcs : Cl v cs] :
    evOp (lst N φ) s (.ixs sz x y) = some (.iptr cs, s) := by
  rw [Bool.and_eq_true] at hc
  rcases hl.h with ⟨rfl, rfl⟩ | ⟨t, rfl⟩
  · simp at he
  · simp only [evOp, h0.h hc.1, h1.h hc.2, if_pos hi, if_true, he, hcs.h.2]
theorem s_ixl {sz : Nat} {x y : Opd} {a : AV} {l : List AV} {i : Int} {j : IntKind} {cs : List AV} {c c' : Bool} [h0 : Ev N φ x a c] [h1 : Ev N φ y (.int j i) c'] [hl : Ls a sz l] (hc : (c && c') = true) (hi : 0 ≤ i) (he : l[i.toNat]? = some v) [hcs : Cl v cs]
    (h : WpO E N r (upd' φ d (.iptr cs)) s K) : WpO E N (.op (some d) none (.ixs sz x y) :: r) φ s K := wpO_op (ixl hc hi he) h
theorem s_ixlg {sz : Nat} {x y : Opd} {a : AV} {l : List AV} {i : Int} {j : IntKind} {cs : List AV} {g c c' c2 : Bool} [hg : At φ t (.bool g) c2] [h0 : Ev N φ x a c] [h1 : Ev N φ y (.int j i) c'] [hl : Ls a sz l] (hc : (Nat.blt t N && (c2 && (c && c'))) = true) (hi : 0 ≤ i) (he : l[i.toNat]? = some v) [hcs : Cl v cs]
    (h : WpO E N r (upd' φ d (.iptr cs)) s K) : WpO E N (.op (some d) (some (t, g)) (.ixs sz x y) :: r) φ s K := by
  rw [Bool.and_eq_true, Bool.and_eq_true] at hc
  exact s_og (h0 := hg) (by rw [Bool.and_eq_true]; exact ⟨hc.1, hc.2.1⟩) (ixl hc.2.2 hi he) h
/-- A part of a slice that is only read. -/
theorem s_sll {sz : Nat} {x y z : Opd} {a : AV} {l : List AV} {i j : Int} {k k' : IntKind} {c c1 c2 : Bool} [h0 : Ev N φ x a c] [h1 : Ev N φ y (.int k i) c1] [h2 : Ev N φ z (.int k' j) c2] [hl : Ls a sz l] (hc : (c && (c1 && c2)) = true) (hi : 0 ≤ i ∧ i ≤ j ∧ j ≤ (l.length : Int))
    (h : ∀ v', Ls v' sz ((l.take j.toNat).drop i.toNat) → WpO E N r (upd' φ d v') s K) : WpO E N (.op (some d) none (.slsl sz x (some y) (some z)) :: r) φ s K := by
  rcases hl.h with ⟨rfl, rfl⟩ | ⟨t, rfl⟩
  · rw [Bool.and_eq_true, Bool.and_eq_true] at hc
    refine wpO_op (v := .nsl) (s' := s) ?_ (h _ ⟨.inl ⟨rfl, by simp⟩⟩)
    have hj : j = 0 := by simp at hi; omega
    have hi0 : i = 0 := by simp at hi; omega
    subst hj; subst hi0
    simp [evOp, h0.h hc.1, bounds, bHi, bLo, h1.h hc.2.1, h2.h hc.2.2, bound]
  · exact s_sl hc hi (h _ ⟨.inr ⟨0, rfl⟩⟩)
theorem s_slfl {sz : Nat} {x y : Opd} {a : AV} {l : List AV} {i : Int} {k : IntKind} {c c1 : Bool} [h0 : Ev N φ x a c] [h1 : Ev N φ y (.int k i) c1] [hl : Ls a sz l] (hc : (c && c1) = true) (hi : 0 ≤ i ∧ i ≤ (l.length : Int))
    (h : ∀ v', Ls v' sz (l.drop i.toNat) → WpO E N r (upd' φ d v') s K) : WpO E N (.op (some d) none (.slsl sz x (some y) none) :: r) φ s K := by
  rcases hl.h with ⟨rfl, rfl⟩ | ⟨t, rfl⟩
  · rw [Bool.and_eq_true] at hc
    refine wpO_op (v := .nsl) (s' := s) ?_ (h _ ⟨.inl ⟨rfl, by simp⟩⟩)
    have hi0 : i = 0 := by simp at hi; omega
    subst hi0
    simp [evOp, h0.h hc.1, bounds, bHi, bLo, h1.h hc.2, bound]
  · exact s_slf hc hi (h _ ⟨.inr ⟨0, rfl⟩⟩)
end

/-! Bytes -/
def bv (b : List Nat) : List AV := b.map fun (c : Nat) => AV.int .u8 (c : Int)

theorem bv_length (b : List Nat) : (bv b).length = b.length := by simp [bv]
theorem bv_append (a b : List Nat) : bv (a ++ b) = bv a ++ bv b := by simp [bv]
theorem bv_ok (b : List Nat) : ((bv b).all fun v => v.nt && decide (v.cells.length = 1)) = true := by
  simp only [bv, List.all_map, List.all_eq_true]; intro x _; rfl
theorem bv_get (b : List Nat) (i : Nat) : (bv b)[i]? = (b[i]?).map fun (c : Nat) => AV.int .u8 (c : Int) := by simp [bv]
theorem bytesOf_bv {b : List Nat} (h : ∀ c ∈ b, c < 256) : bytesOf (bv b) = some b := by
  induction b with
  | nil => rfl
  | cons c r ih =>
    have h1 := ih (fun x hx => h x (by simp [hx]))
    have h2 : c < 256 := h c (by simp)
    rw [bv] at h1
    simp only [bv, List.map_cons, bytesOf, h1]
    rw [show ((c : Nat) : Int).toNat % 256 = c by omega]

section
variable {E : Env} {N : Nat} {φ : Nat → AV} {s : St} {K : (Nat → AV) → St → Prop} {d : Nat} {r : List IStmt}
theorem s_b2s {x : Opd} {a : AV} {b : List Nat} {c : Bool} [h0 : Ev N φ x a c] (hc : c = true) (hl : Ls a 1 (bv b)) (hb : ∀ c ∈ b, c < 256) (h : WpO E N r (upd' φ d (.str b)) s K) : WpO E N (.op (some d) none (.b2s x) :: r) φ s K := by
  refine wpO_op (v := .str b) (s' := s) ?_ h
  rcases hl.h with ⟨rfl, e⟩ | ⟨t, rfl⟩
  · have : b = [] := by cases b with
      | nil => rfl
      | cons _ _ => simp [bv] at e
    subst this
    simp only [evOp, h0.h hc, elems, bytesOf]
  · simp only [evOp, h0.h hc, elems, if_true, bytesOf_bv hb]
end

/-! Texts -/
section
variable {E : Env} {N : Nat} {φ : Nat → AV} {s : St} {K : (Nat → AV) → St → Prop} {d t : Nat} {r : List IStmt}
theorem ixt {x y : Opd} {b : List Nat} {i : Int} {j : IntKind} {e : Nat} {c c' : Bool} [h0 : Ev N φ x (.str b) c] [h1 : Ev N φ y (.int j i) c'] (hc : (c && c') = true) (hi : 0 ≤ i) (he : b[i.toNat]? = some e) :
    evOp (lst N φ) s (.ixstr x y) = some (.int .u8 (e : Int), s) := by
  rw [Bool.and_eq_true] at hc
  simp only [evOp, h0.h hc.1, h1.h hc.2, if_pos hi, he]; rfl
theorem s_ixt {x y : Opd} {b : List Nat} {i : Int} {j : IntKind} {e : Nat} {c c' : Bool} [h0 : Ev N φ x (.str b) c] [h1 : Ev N φ y (.int j i) c'] (hc : (c && c') = true) (hi : 0 ≤ i) (he : b[i.toNat]? = some e)
    (h : WpO E N r (upd' φ d (.int .u8 (e : Int))) s K) : WpO E N (.op (some d) none (.ixstr x y) :: r) φ s K := wpO_op (ixt hc hi he) h
theorem s_ixtg {x y : Opd} {b : List Nat} {i : Int} {j : IntKind} {e : Nat} {g c c' c2 : Bool} [hg : At φ t (.bool g) c2] [h0 : Ev N φ x (.str b) c] [h1 : Ev N φ y (.int j i) c'] (hc : (Nat.blt t N && (c2 && (c && c'))) = true) (hi : 0 ≤ i) (he : b[i.toNat]? = some e)
    (h : WpO E N r (upd' φ d (.int .u8 (e : Int))) s K) : WpO E N (.op (some d) (some (t, g)) (.ixstr x y) :: r) φ s K := by
  rw [Bool.and_eq_true, Bool.and_eq_true] at hc
  exact s_og (h0 := hg) (by rw [Bool.and_eq_true]; exact ⟨hc.1, hc.2.1⟩) (ixt hc.2.2 hi he) h
theorem s_sst {x y : Opd} {b : List Nat} {j : Int} {k : IntKind} {c c1 : Bool} [h0 : Ev N φ x (.str b) c] [h1 : Ev N φ y (.int k j) c1] (hc : (c && c1) = true) (hi : 0 ≤ j ∧ j ≤ (b.length : Int))
    (h : WpO E N r (upd' φ d (.str (b.take j.toNat))) s K) : WpO E N (.op (some d) none (.slstr x none (some y)) :: r) φ s K := by
  rw [Bool.and_eq_true] at hc
  refine wpO_op ?_ h
  simp only [evOp, h0.h hc.1, bounds, bHi, bLo, h1.h hc.2, bnd hi.1 hi.2, List.drop_zero]
theorem s_sss {x y z : Opd} {b : List Nat} {i j : Int} {k k' : IntKind} {c c1 c2 : Bool} [h0 : Ev N φ x (.str b) c] [h1 : Ev N φ y (.int k i) c1] [h2 : Ev N φ z (.int k' j) c2] (hc : (c && (c1 && c2)) = true) (hi : 0 ≤ i ∧ i ≤ j ∧ j ≤ (b.length : Int))
    (h : WpO E N r (upd' φ d (.str ((b.take j.toNat).drop i.toNat))) s K) : WpO E N (.op (some d) none (.slstr x (some y) (some z)) :: r) φ s K := by
  rw [Bool.and_eq_true, Bool.and_eq_true] at hc
  refine wpO_op ?_ h
  simp only [evOp, h0.h hc.1, bounds, bHi, bLo, h1.h hc.2.1, h2.h hc.2.2, bnd (show 0 ≤ j by omega) hi.2.2]
  rw [bnd hi.1 (by omega)]
instance {x y : Opd} {k k' : IntKind} {m n : Int} {c c' : Bool} [h0 : Ev N φ x (.int k m) c] [h1 : Ev N φ y (.int k' n) c'] : Op N φ (.mx false x [y]) (.int k (min m n)) (c && c') := ⟨fun e s => by
  rw [Bool.and_eq_true] at e
  simp only [evOp, h0.h e.1, evMx, h1.h e.2, mx2, Bool.false_eq_true, if_false]
  rw [show (if n < m then n else m) = min m n by rw [Int.min_def]; split <;> split <;> omega]⟩
end
theorem aint {k : IntKind} {a b : Int} (h : a = b) : AV.int k a = AV.int k b := h ▸ rfl
theorem Up.at0 {s s' : St} (h : Up s s' []) (hF : s.Fr) {i : Nat} {o : Obj} (hl : look s.objs i = some o) : look s'.objs i = some o := h.at hF hl (by simp)
theorem Up.at1 {s s' : St} {p : Nat} (h : Up s s' [p]) (hF : s.Fr) {i : Nat} {o : Obj} (hl : look s.objs i = some o) (hn : i ≠ p) : look s'.objs i = some o := h.at hF hl (by simpa using hn)
/-- What a call has made stays among its own. -/
theorem Up.own {s s1 s2 : St} {V W : List Nat} (h1 : Up s s1 V) (h2 : Up s1 s2 W) (hW : ∀ i ∈ W, s.next ≤ i) : Up s s2 V :=
  h1.trans h2 fun i hi hn => ⟨hn, fun h => by have := hW i h; omega⟩
theorem Up.own1 {s s1 s2 : St} {V : List Nat} {p : Nat} (h1 : Up s s1 V) (h2 : Up s1 s2 [p]) (hp : s.next ≤ p) : Up s s2 V := h1.own h2 (by simpa using hp)
theorem drop_cons {α : Type} {l : List α} {i : Nat} {x : α} (h : l[i]? = some x) : l.drop i = x :: l.drop (i + 1) := by
  obtain ⟨hlt, he⟩ := List.getElem?_eq_some_iff.1 h
  rw [List.drop_eq_getElem_cons hlt, he]

/-! One rule for many steps -/
section
variable {E : Env} {N : Nat} {φ : Nat → AV} {s s' : St} {Q : X → (Nat → AV) → St → Prop} {K : (Nat → AV) → St → Prop} {d t f i j : Nat} {o : IOp} {r ss : List IStmt} {v w : AV} {a b e : ICode} {x y : Opd} {c c' : Bool} {J : (Nat → AV) → St → Prop} {g : Option (Nat × Bool)}

/-- A step: what is left to prove. -/
class Stp (G : Prop) (c : outParam Bool) (P : outParam Prop) : Prop where
  h : c = true → P → G
/-- .. into a part. -/
class Stq (G : Prop) (P : outParam Prop) : Prop where
  h : P → G
theorem stp {G P : Prop} [h : Stp G c P] (p : P) (hc : c = true := by rfl) : G := h.h hc p
theorem stq {G P : Prop} [h : Stq G P] (p : P) : G := h.h p

class Gd (N : Nat) (φ : Nat → AV) (g : Option (Nat × Bool)) (c : outParam Bool) : Prop where
  h : c = true → wanted (lst N φ) g = true
instance : Gd N φ none true := ⟨fun _ => rfl⟩
/-- Whether a guard holds. -/
class Gv (w : AV) (b r : Bool) : Prop where
  h : ∀ (N : Nat) (φ : Nat → AV) (t : Nat), t < N → φ t = w → wanted (lst N φ) (some (t, b)) = r
instance : Gv (.bool true) true true := ⟨fun _ _ _ h e => by rw [want h e]; rfl⟩
instance : Gv (.bool false) false true := ⟨fun _ _ _ h e => by rw [want h e]; rfl⟩
instance : Gv (.bool true) false false := ⟨fun _ _ _ h e => by rw [want h e]; rfl⟩
instance : Gv (.bool false) true false := ⟨fun _ _ _ h e => by rw [want h e]; rfl⟩
instance {b : Bool} : Gv .undef b false := ⟨fun _ _ _ h e => by simp only [wanted, lst_getD _ h, e]⟩
class Bv (w : AV) (b : Bool) : Prop where
  h : w = .bool b
instance {b : Bool} : Bv (.bool b) b := ⟨rfl⟩
instance {b : Bool} [h : At φ t w c] [h2 : Gv w b true] : Gd N φ (some (t, b)) (Nat.blt t N && c) := ⟨fun e => by
  rw [Bool.and_eq_true] at e
  exact h2.h N φ t (blt_lt e.1) (h.h e.2)⟩
theorem r_o (hw : wanted (lst N φ) g = true) (he : evOp (lst N φ) s o = some (v, s')) (h : WpO E N r (upd' φ d v) s' K) : WpO E N (.op (some d) g o :: r) φ s K := by
  cases g with
  | none => exact wpO_op he h
  | some p => exact wpO_g hw he h

instance : Stp (Wp E N (.seq (.reg ss) b) φ s Q) true (WpO E N ss φ s (fun φ s => Wp E N b φ s Q)) := ⟨fun _ h => s_w h⟩
instance : Stp (WpO E N [] φ s K) true (K φ s) := ⟨fun _ h => s_nil h⟩
instance [h0 : Gd N φ g c'] [h1 : Op N φ o v c] : Stp (WpO E N (.op (some d) g o :: r) φ s K) (c' && c) (WpO E N r (upd' φ d v) s K) := ⟨fun e h => by
  rw [Bool.and_eq_true] at e; exact r_o (h0.h e.1) (h1.h e.2 s) h⟩
instance {b : Bool} [h1 : At φ t w c] [h2 : Gv w b false] : Stp (WpO E N (.op (some d) (some (t, b)) o :: r) φ s K) (Nat.blt t N && c) (WpO E N r (upd' φ d .undef) s K) := ⟨fun e h => by
  rw [Bool.and_eq_true] at e
  exact wpO_gn (h2.h N φ t (blt_lt e.1) (h1.h e.2)) h⟩
instance {b : Bool} {l : List Opd} [h1 : At φ t w c] [h2 : Gv w b false] : Stp (WpO E N (.call (some d) (some (t, b)) x l :: r) φ s K) (Nat.blt t N && c) (WpO E N r (upd' φ d .undef) s K) := ⟨fun e h => by
  rw [Bool.and_eq_true] at e
  obtain ⟨n, φ', s2, h3, h4⟩ := h
  refine ⟨n, φ', s2, ?_, h4⟩
  simp only [evOps, evSt, h2.h N φ t (blt_lt e.1) (h1.h e.2), Bool.false_eq_true, if_false, setDst, IStmt.dst, lst_set, h3]⟩
instance [h0 : Ev N φ x w c] [h1 : Bv w true] : Stp (Wp E N (.cond x a b) φ s Q) c (Wp E N a φ s Q) := ⟨fun e h => wp_cond (t := true) ((h0.h e).trans h1.h) h⟩
instance [h0 : Ev N φ x w c] [h1 : Bv w false] : Stp (Wp E N (.cond x a b) φ s Q) c (Wp E N b φ s Q) := ⟨fun e h => wp_cond (t := false) ((h0.h e).trans h1.h) h⟩
instance : Stp (Wp E N .ret φ s Q) true (Q .ret φ s) := ⟨fun _ h => s_rt h⟩
instance : Stp (Wp E N .skip φ s Q) true (Q .normal φ s) := ⟨fun _ h => s_sk h⟩
instance : Stp (Wp E N (.exit i) φ s Q) true (Q (.exit i) φ s) := ⟨fun _ h => s_ex h⟩
instance : Stp (Wp E N (.reg ss) φ s Q) true (WpO E N ss φ s (Q .normal)) := ⟨fun _ h => s_r h⟩
instance : Stp (Then E N b Q .normal φ s) true (Wp E N b φ s Q) := ⟨fun _ h => h⟩
instance : Stp (Then E N b Q .ret φ s) true (Q .ret φ s) := ⟨fun _ h => h⟩
instance : Stp (Then E N b Q (.exit i) φ s) true (Q (.exit i) φ s) := ⟨fun _ h => h⟩
instance : Stp (Blocked i Q .normal φ s) true (Q .normal φ s) := ⟨fun _ h => h⟩
instance : Stp (Blocked i Q .ret φ s) true (Q .ret φ s) := ⟨fun _ h => h⟩
instance (priority := high) : Stp (Blocked i Q (.exit i) φ s) true (Q .normal φ s) := ⟨fun _ h => s_be h⟩
instance : Stp (Blocked i Q (.exit j) φ s) (!Nat.beq j i) (Q (.exit j) φ s) := ⟨fun e h => s_bo (by simpa using e) h⟩
instance : Stp (Lq J Q .normal φ s) true (J φ s) := ⟨fun _ h => h⟩
instance : Stp (Lq J Q .ret φ s) true (Q .ret φ s) := ⟨fun _ h => h⟩
instance : Stp (Lq J Q (.exit i) φ s) true (Q (.exit i) φ s) := ⟨fun _ h => h⟩
instance (priority := high) : Stp (Jq i J Q (.exit i) φ s) true (J φ s) := ⟨fun _ h => s_je h⟩
instance : Stp (Jq i J Q .ret φ s) true (Q .ret φ s) := ⟨fun _ h => h⟩
instance : Stp (Jq i J Q (.exit j) φ s) (!Nat.beq j i) (Q (.exit j) φ s) := ⟨fun e h => s_jo (by simpa using e) h⟩
instance : Stq (Wp E N (.seq (.seq a b) e) φ s Q) (Wp E N (.seq a b) φ s (Then E N e Q)) := ⟨s_q⟩
instance : Stq (Wp E N (.seq (.block i a) b) φ s Q) (Wp E N (.block i a) φ s (Then E N b Q)) := ⟨s_q⟩
instance : Stq (Wp E N (.seq (.cond x a b) e) φ s Q) (Wp E N (.cond x a b) φ s (Then E N e Q)) := ⟨s_q⟩
instance : Stq (Wp E N (.block i (.seq (.reg ss) b)) φ s Q) (Wp E N (.seq (.reg ss) b) φ s (Blocked i Q)) := ⟨s_bw⟩
instance : Stq (Wp E N (.block i (.seq (.seq a b) e)) φ s Q) (Wp E N (.seq (.seq a b) e) φ s (Blocked i Q)) := ⟨s_bq⟩
instance : Stq (Wp E N (.block i (.reg ss)) φ s Q) (Wp E N (.reg ss) φ s (Blocked i Q)) := ⟨s_bb⟩

/-- Sums and differences that stay within their bounds. -/
class SD (op : BinOp) (m n : Int) (z : outParam Int) : Prop where
  h : binInt op .i64 m n = some (.int .i64 (wrapF .i64 z))
instance {m n : Int} : SD .add m n (m + n) := ⟨rfl⟩
instance {m n : Int} : SD .sub m n (m - n) := ⟨rfl⟩
theorem r_a {op : BinOp} {m n z : Int} {c0 : Bool} [hg : Gd N φ g c0] [h0 : Ev N φ x (.int .i64 m) c] [h1 : Ev N φ y (.int .i64 n) c'] [h2 : SD op m n z] (h : WpO E N r (upd' φ d (.int .i64 z)) s K)
    (hb : -9223372036854775808 ≤ z ∧ z < 9223372036854775808 := by omega) (hc : (c0 && (c && c')) = true := by rfl) : WpO E N (.op (some d) g (.bin op x y) :: r) φ s K := by
  rw [Bool.and_eq_true, Bool.and_eq_true] at hc
  refine r_o (hg.h hc.1) ?_ h
  have h3 := h2.h
  rw [wrap64 hb.1 hb.2] at h3
  cases op <;> simp only [evOp, h0.h hc.2.1, h1.h hc.2.2, bin, if_true, h3] <;> cases h3
theorem r_l {k : Option Nat} {id off ty : Nat} {cs cs' : List AV} {c0 : Bool} [hg : Gd N φ g c0] [h0 : Ev N φ x (.ptr id off) c] (h : WpO E N r (upd' φ d v) s K) (hl : look s.objs id = some (.cells ty cs) := by assumption) [h1 : Dp off cs cs'] [h2 : Tak k cs' v]
    (hc : (c0 && c) = true := by rfl) : WpO E N (.op (some d) g (.load k x) :: r) φ s K := by
  rw [Bool.and_eq_true] at hc
  exact r_o (hg.h hc.1) (ld hc.2 hl) h
theorem r_c {k : Option Nat} {id off ty : Nat} {cs cs' : List AV} {c0 : Bool} [hg : At φ d v c0] [h0 : Ev N φ x (.ptr id off) c] (h : WpO E N r φ s K) (hl : look s.objs id = some (.cells ty cs) := by assumption) [h1 : Dp off cs cs'] [h2 : Tak k cs' v]
    (hc : (Nat.blt d N && c0) = true := by rfl) (hc2 : c = true := by rfl) : WpO E N (.chk d none (.load k x) :: r) φ s K := s_chk hc (ld hc2 hl) h
theorem r_m {op : BinOp} {p q : Prop} {c0 : Bool} [hg : Gd N φ g c0] [h : Ev N φ x v c] [h1 : Ev N φ y w c'] [h2 : Cmp op v w p q]
    (ht : p → WpO E N r (upd' φ d (.bool true)) s K) (hf : q → WpO E N r (upd' φ d (.bool false)) s K) (hc : (c0 && (c && c')) = true := by rfl) : WpO E N (.op (some d) g (.bin op x y) :: r) φ s K := by
  rw [Bool.and_eq_true] at hc
  obtain ⟨u, e, k1, k2⟩ := cmp_op (s := s) hc.2 (h := h) (h1 := h1) (h2 := h2)
  cases u with
  | true => exact r_o (hg.h hc.1) e (ht (k1 rfl))
  | false => exact r_o (hg.h hc.1) e (hf (k2 rfl))
theorem r_t {op : BinOp} {p q : Prop} {c0 : Bool} [hg : Gd N φ g c0] [h : Ev N φ x v c] [h1 : Ev N φ y w c'] [h2 : Cmp op v w p q]
    (ht : p → WpO E N r (upd' φ d (.bool true)) s K) (hq : ¬ q := by omega) (hc : (c0 && (c && c')) = true := by rfl) : WpO E N (.op (some d) g (.bin op x y) :: r) φ s K := r_m ht (fun e => absurd e hq) hc
theorem r_f {op : BinOp} {p q : Prop} {c0 : Bool} [hg : Gd N φ g c0] [h : Ev N φ x v c] [h1 : Ev N φ y w c'] [h2 : Cmp op v w p q]
    (hf : q → WpO E N r (upd' φ d (.bool false)) s K) (hp : ¬ p := by omega) (hc : (c0 && (c && c')) = true := by rfl) : WpO E N (.op (some d) g (.bin op x y) :: r) φ s K := r_m (fun e => absurd e hp) hf hc
theorem r_i {sz : Nat} {u : AV} {l : List AV} {k : Int} {kd : IntKind} {cs : List AV} {c0 : Bool} [hg : Gd N φ g c0] [h0 : Ev N φ x u c] [h1 : Ev N φ y (.int kd k) c'] [hl : Ls u sz l] (h : WpO E N r (upd' φ d (.iptr cs)) s K)
    (hi : 0 ≤ k := by omega) (he : l[k.toNat]? = some v := by assumption) [hcs : Cl v cs] (hc : (c0 && (c && c')) = true := by rfl) : WpO E N (.op (some d) g (.ixs sz x y) :: r) φ s K := by
  rw [Bool.and_eq_true] at hc
  exact r_o (hg.h hc.1) (ixl hc.2 hi he) h
theorem r_x {l : List Nat} {k : Int} {kd : IntKind} {n : Nat} {c0 : Bool} [hg : Gd N φ g c0] [h0 : Ev N φ x (.str l) c] [h1 : Ev N φ y (.int kd k) c'] (h : WpO E N r (upd' φ d (.int .u8 (n : Int))) s K)
    (hi : 0 ≤ k := by omega) (he : l[k.toNat]? = some n := by assumption) (hc : (c0 && (c && c')) = true := by rfl) : WpO E N (.op (some d) g (.ixstr x y) :: r) φ s K := by
  rw [Bool.and_eq_true] at hc
  exact r_o (hg.h hc.1) (ixt hc.2 hi he) h
end
end Go.Am

namespace Go.Am
namespace M
abbrev o (d : Nat) (x : IOp) : IStmt := .op (some d) none x
abbrev m (d t : Nat) : IStmt := .op (some d) none (.mov (.t t))
abbrev k (d f : Nat) (l : List Opd) : IStmt := .call (some d) none (.f f) l
abbrev u (n a v : Nat) : IStmt := .op none none (.store n (.t a) (.t v))
abbrev i (n : Int) : AV := .int .i64 n
abbrev c (n : Int) : Opd := .c (.int .i64 n)
abbrev l (d t : Nat) : IStmt := .op (some d) none (.load none (.t t))
abbrev a (d z t : Nat) : IStmt := .op (some d) none (.load (some z) (.t t))
abbrev f (d p t : Nat) : IStmt := .op (some d) none (.fld p (.t t))
abbrev e (d t i : Nat) : IStmt := .op (some d) none (.ext (.t t) i)
abbrev n (d t : Nat) : IStmt := .op (some d) none (.nilchk (.t t))
abbrev g (d t : Nat) (b : Bool) (x : IOp) : IStmt := .op (some d) (some (t, b)) x
abbrev q (a b : ICode) : ICode := .seq a b
abbrev r (l : List IStmt) : ICode := .reg l
abbrev w (l : List IStmt) (x : ICode) : ICode := .seq (.reg l) x
abbrev t (n : Nat) : Opd := .t n
abbrev b (n : Int) : AV := .int .u8 n
abbrev B (t : Nat) (l : List Int) : AV := .sl t 1 (l.map b)
abbrev d (t : Nat) (a b : ICode) : ICode := .cond (.t t) a b
end M
end Go.Am

/- Walking through code: one step at a time, and how the state grows. -/
import Derived.Test.YtjacmplknlploaaGreatDoorW00
import Derived.Test.YtjacmplknlploaaGreatDoorW10
set_option linter.all false
namespace Go.Am

/-! The state -/

/-- Nothing stands at or above the next id. -/
structure St.Fr (s : St) : Prop where
  two : 2 ≤ s.next
  nn : ∀ i, s.next ≤ i → look s.objs i = none

/-- The state has grown; what stood before is as it was, but at W. -/
structure Up (s s' : St) (W : List Nat) : Prop where
  le : s.next ≤ s'.next
  fr : s'.Fr
  keep : ∀ i, i < s.next → i ∉ W → look s'.objs i = look s.objs i

theorem St.Fr.lt {s : St} (h : s.Fr) {i : Nat} {o : Obj} (hl : look s.objs i = some o) : i < s.next := by
  apply Nat.lt_of_not_le; intro hn; rw [h.nn i hn] at hl; cases hl

theorem Up.at {s s' : St} {W : List Nat} (h : Up s s' W) (hF : s.Fr) {i : Nat} {o : Obj} (hl : look s.objs i = some o) (hi : i ∉ W) : look s'.objs i = some o := by
  rw [h.keep i (hF.lt hl) hi]; exact hl

theorem Up.refl {s : St} (h : s.Fr) : Up s s [] := ⟨Nat.le_refl _, h, fun _ _ _ => rfl⟩

theorem Up.trans {s s1 s2 : St} {W W1 W2 : List Nat} (h1 : Up s s1 W1) (h2 : Up s1 s2 W2) (hw : ∀ i, i < s.next → i ∉ W → i ∉ W1 ∧ i ∉ W2) : Up s s2 W :=
  ⟨Nat.le_trans h1.le h2.le, h2.fr, fun i hi hn => by
    obtain ⟨a, b⟩ := hw i hi hn
    rw [h2.keep i (Nat.lt_of_lt_of_le hi h1.le) b, h1.keep i hi a]⟩

theorem Up.tr {s s1 s2 : St} {W1 W2 : List Nat} (h1 : Up s s1 W1) (h2 : Up s1 s2 W2) : Up s s2 (W1 ++ W2) :=
  h1.trans h2 fun i _ hn => ⟨fun h => hn (List.mem_append_left _ h), fun h => hn (List.mem_append_right _ h)⟩

theorem Up.mono {s s1 : St} {W W1 : List Nat} (h1 : Up s s1 W1) (hw : ∀ i, i < s.next → i ∈ W1 → i ∈ W) : Up s s1 W :=
  ⟨h1.le, h1.fr, fun i hi hn => h1.keep i hi fun h => hn (hw i hi h)⟩

theorem look_add {s : St} {o : Obj} {i : Nat} : look (s.add o).objs i = if s.next = i then some o else look s.objs i := rfl

theorem look_up2 {l : List (Nat × Obj)} {i j : Nat} {o : Obj} : look (upd l i o) j = if i = j then (look l j).map (fun _ => o) else look l j := by
  induction l with
  | nil => simp [upd, look]
  | cons p r ih =>
    obtain ⟨k, x⟩ := p
    simp only [upd]
    by_cases hk : k = i
    · subst hk; rw [if_pos rfl]; simp only [look]
      by_cases hj : k = j
      · simp [hj]
      · simp [hj]
    · rw [if_neg hk]; simp only [look, ih]
      by_cases hj : k = j
      · subst hj; simp [Ne.symm hk]
      · simp [hj]

theorem look_set {s : St} {i j : Nat} {o : Obj} : look (s.set i o).objs j = if i = j then (look s.objs j).map (fun _ => o) else look s.objs j := look_up2

theorem look_del {l : List (Nat × Obj)} {i j : Nat} (h : i ≠ j) : look (Am.del l i) j = look l j := by
  induction l with
  | nil => rfl
  | cons p r ih =>
    obtain ⟨k, x⟩ := p
    simp only [Am.del]
    by_cases hk : k = i
    · subst hk; rw [if_pos rfl]; simp [look, h]
    · rw [if_neg hk]; simp only [look, ih]

theorem look_del_none {l : List (Nat × Obj)} {i j : Nat} (h : look l j = none) : look (Am.del l i) j = none := by
  induction l with
  | nil => rfl
  | cons p r ih =>
    obtain ⟨k, x⟩ := p
    simp only [look] at h
    split at h
    · cases h
    · rename_i hk
      simp only [Am.del]
      by_cases hi : k = i
      · rw [if_pos hi]; exact h
      · rw [if_neg hi]; simp only [look, if_neg hk]; exact ih h

theorem up_add {s : St} (h : s.Fr) (o : Obj) : Up s (s.add o) [] :=
  ⟨Nat.le_succ _, ⟨Nat.le_succ_of_le h.two, fun i hi => by
    have hi' : s.next + 1 ≤ i := hi
    rw [look_add, if_neg (by omega)]; exact h.nn i (by omega)⟩,
   fun i hi _ => by rw [look_add, if_neg (by omega)]⟩

theorem look_add_self {s : St} {o : Obj} : look (s.add o).objs s.next = some o := by rw [look_add, if_pos rfl]

theorem up_set {s : St} (h : s.Fr) (i : Nat) (o : Obj) : Up s (s.set i o) [i] :=
  ⟨Nat.le_refl _, ⟨h.two, fun j hj => by
    have hj' : s.next ≤ j := hj
    rw [look_set, h.nn j hj']; split <;> rfl⟩,
   fun j _ hn => by
    rw [look_set, if_neg]; intro e; exact hn (by simp [e])⟩

theorem look_set_self {s : St} {i : Nat} {o o' : Obj} (h : look s.objs i = some o') : look (s.set i o).objs i = some o := by
  rw [look_set, if_pos rfl, h]; rfl

theorem up_del {s : St} (h : s.Fr) (i : Nat) : Up s (s.del i) [i] :=
  ⟨Nat.le_refl _, ⟨h.two, fun j hj => look_del_none (h.nn j hj)⟩, fun j _ hn => look_del (fun e => hn (by simp [e]))⟩

theorem look_dropN {n i : Nat} : ∀ {l : List (Nat × Obj)}, i < n → look (dropN n l) i = look l i
  | [], _ => rfl
  | (k, x) :: r, h => by
    simp only [dropN]
    cases hb : Nat.ble n k with
    | false => rfl
    | true =>
      have hk : n ≤ k := Nat.le_of_ble_eq_true hb
      simp only [cond_true, look]
      rw [if_neg (by omega)]; exact look_dropN h

theorem look_dropN_none {n i : Nat} : ∀ {l : List (Nat × Obj)}, look l i = none → look (dropN n l) i = none
  | [], _ => rfl
  | (k, x) :: r, h => by
    simp only [dropN]
    cases hb : Nat.ble n k with
    | false => exact h
    | true =>
      simp only [look] at h
      split at h
      · cases h
      · exact look_dropN_none h

theorem look_dropS {n i : Nat} : ∀ {l : List (Nat × Obj)}, i < n → look (dropS n l) i = look l i
  | [], _ => rfl
  | (k, x) :: r, h => by
    simp only [dropS]
    cases hb : Nat.ble n k with
    | false => rfl
    | true =>
      have hk : n ≤ k := Nat.le_of_ble_eq_true hb
      cases hx : x.light with
      | true => simp only [cond_true, look]; rw [if_neg (by omega)]; exact look_dropS h
      | false => simp only [cond_true, cond_false, look]; rw [if_neg (by omega), if_neg (by omega)]; exact look_dropS h

theorem look_dropS_none {n i : Nat} : ∀ {l : List (Nat × Obj)}, look l i = none → look (dropS n l) i = none
  | [], _ => rfl
  | (k, x) :: r, h => by
    have h0 := h
    simp only [look] at h
    split at h
    · cases h
    · rename_i hk
      simp only [dropS]
      cases hb : Nat.ble n k with
      | false => exact h0
      | true =>
        cases hx : x.light with
        | true => simp only [cond_true]; exact look_dropS_none h
        | false => simp only [cond_true, cond_false, look, if_neg hk]; exact look_dropS_none h

theorem look_dropS_some {n i : Nat} {o : Obj} (ho : o.light = false) : ∀ {l : List (Nat × Obj)}, look l i = some o → look (dropS n l) i = some o
  | [], h => by cases h
  | (k, x) :: r, h => by
    have h0 := h
    simp only [look] at h
    simp only [dropS]
    cases hb : Nat.ble n k with
    | false => exact h0
    | true =>
      split at h
      · rename_i hk; cases h; simp only [ho, cond_true, cond_false, look, if_pos hk]
      · rename_i hk
        cases hx : x.light with
        | true => simp only [cond_true]; exact look_dropS_some ho h
        | false => simp only [cond_true, cond_false, look, if_neg hk]; exact look_dropS_some ho h

/-- The state when a function has returned. -/
def St.out (s1 : St) (keep : Keep) (n : Nat) : St := ⟨drop keep n s1.objs, s1.next⟩

theorem Up.out {s s1 : St} {W : List Nat} (h : Up s s1 W) (keep : Keep) : Up s (s1.out keep s.next) W := by
  cases keep with
  | all => exact h
  | none => exact ⟨h.le, ⟨h.fr.two, fun i hi => look_dropN_none (h.fr.nn i hi)⟩, fun i hi hn => by rw [← h.keep i hi hn]; exact look_dropN hi⟩
  | some => exact ⟨h.le, ⟨h.fr.two, fun i hi => look_dropS_none (h.fr.nn i hi)⟩, fun i hi hn => by rw [← h.keep i hi hn]; exact look_dropS hi⟩

theorem out_lt {s1 : St} {keep : Keep} {n i : Nat} (h : i < n) : look (s1.out keep n).objs i = look s1.objs i := by
  cases keep with
  | all => rfl
  | none => exact look_dropN h
  | some => exact look_dropS h

theorem out_some {s1 : St} {n i : Nat} {o : Obj} (ho : o.light = false) (h : look s1.objs i = some o) : look (s1.out .some n).objs i = some o := look_dropS_some ho h

/-! Calls -/

def Cal (E : Env) (f : Nat) (args : List AV) (s : St) (k : AV → St → Prop) : Prop := ∃ v s', CallsTo E f args s v s' ∧ k v s'

theorem Cal.mono {E : Env} {f : Nat} {args : List AV} {s : St} {k k' : AV → St → Prop} (h : Cal E f args s k) (hk : ∀ v s', k v s' → k' v s') : Cal E f args s k' :=
  let ⟨v, s', h1, h2⟩ := h; ⟨v, s', h1, hk v s' h2⟩

def Rt (N : Nat) (res : List Res) (keep : Keep) (n : Nat) (k : AV → St → Prop) : X → (Nat → AV) → St → Prop
  | .exit _, _, _ => False
  | _, φ, s1 => ∃ vs, resV (lst N φ) s1 res = some vs ∧ k (packR vs) (s1.out keep n)

mutual
theorem eqb_self : ∀ (v : AV), AV.eqb v v = true
  | .bool b => by simp [AV.eqb]
  | .int k n => by simp [AV.eqb]
  | .str s => by simp [AV.eqb]
  | .nptr | .nsl | .nmap | .nfn | .nif => by simp [AV.eqb]
  | .ptr .. | .hsl .. | .map .. | .yld .. => by simp [AV.eqb]
  | .iptr l | .agg l | .tup l | .sl _ _ l => by simp [AV.eqb, eqbL_self l]
  | .fn f a b => by simp [AV.eqb, eqbL_self a, eqbL_self b]
theorem eqbL_self : ∀ (l : List AV), AV.eqbL l l = true
  | [] => rfl
  | a :: r => by simp [AV.eqbL, eqb_self a, eqbL_self r]
end


/-! Operands -/

theorem blt_lt {a b : Nat} (h : Nat.blt a b = true) : a < b := Nat.le_of_ble_eq_true h
theorem want {N : Nat} {φ : Nat → AV} {t : Nat} {b b' : Bool} (h : t < N) (e : φ t = .bool b') : wanted (lst N φ) (some (t, b)) = (b' == b) := by
  simp only [wanted, lst_getD φ h, e]

class At (φ : Nat → AV) (i : Nat) (v : outParam AV) (c : outParam Bool) : Prop where
  h : c = true → φ i = v
instance (priority := high) At.eq {φ : Nat → AV} {d : Nat} {v : AV} : At (upd' φ d v) d v true := ⟨fun _ => upd_eq φ d v⟩
instance At.ne {φ : Nat → AV} {d i : Nat} {v v' : AV} {c : Bool} [h : At φ i v' c] : At (upd' φ d v) i v' (!Nat.beq i d && c) := ⟨fun e => by
  rw [Bool.and_eq_true] at e
  rw [upd_ne (fun x => by rw [x, Nat.beq_refl] at e; exact absurd e.1 (by simp))]; exact h.h e.2⟩
instance At.zero {a : AV} {l : List AV} : At (φ0 (a :: l)) 0 a true := ⟨fun _ => rfl⟩
instance At.succ {a v : AV} {l : List AV} {i : Nat} {c : Bool} [h : At (φ0 l) i v c] : At (φ0 (a :: l)) (i + 1) v c := ⟨fun e => h.h e⟩

theorem at_of {φ : Nat → AV} {i : Nat} {v : AV} {c : Bool} [h : At φ i v c] (hc : c = true) : At φ i v true := ⟨fun _ => h.h hc⟩
theorem At.eq_of {φ : Nat → AV} {i : Nat} {v w : AV} (h : At φ i v true) (e : v = w) : At φ i w true := e ▸ h

class Ev (N : Nat) (φ : Nat → AV) (x : Opd) (v : outParam AV) (c : outParam Bool) : Prop where
  h : c = true → x.ev (lst N φ) = v
instance {N : Nat} {φ : Nat → AV} {v : AV} : Ev N φ (.c v) v true := ⟨fun _ => rfl⟩
instance {N : Nat} {φ : Nat → AV} {n : Nat} : Ev N φ (.f n) (.fn n [] []) true := ⟨fun _ => rfl⟩
instance {N : Nat} {φ : Nat → AV} {n : Nat} : Ev N φ (.g n) (.ptr n 0) true := ⟨fun _ => rfl⟩
instance {N : Nat} {φ : Nat → AV} {n : Nat} {v : AV} {c : Bool} [h : At φ n v c] : Ev N φ (.t n) v (Nat.blt n N && c) := ⟨fun e => by
  rw [Bool.and_eq_true] at e
  rw [ev_t (blt_lt e.1)]; exact h.h e.2⟩

class Evs (N : Nat) (φ : Nat → AV) (l : List Opd) (vs : outParam (List AV)) (c : outParam Bool) : Prop where
  h : c = true → l.map (Opd.ev (lst N φ)) = vs
instance {N : Nat} {φ : Nat → AV} : Evs N φ [] [] true := ⟨fun _ => rfl⟩
instance {N : Nat} {φ : Nat → AV} {x : Opd} {l : List Opd} {v : AV} {vs : List AV} {c c' : Bool} [h : Ev N φ x v c] [hl : Evs N φ l vs c'] : Evs N φ (x :: l) (v :: vs) (c && c') := ⟨fun e => by
  rw [Bool.and_eq_true] at e
  rw [List.map_cons, h.h e.1, hl.h e.2]⟩

/-! Parts of lists -/

class Tk (n : Nat) (l : List AV) (r : outParam (List AV)) : Prop where
  h : n ≤ l.length ∧ l.take n = r
instance {l : List AV} : Tk 0 l [] := ⟨⟨Nat.zero_le _, rfl⟩⟩
instance {n : Nat} {a : AV} {l r : List AV} [h : Tk n l r] : Tk (n + 1) (a :: l) (a :: r) := ⟨⟨Nat.succ_le_succ h.h.1, by rw [List.take_succ_cons, h.h.2]⟩⟩
class Dp (n : Nat) (l : List AV) (r : outParam (List AV)) : Prop where
  h : l.drop n = r
instance {l : List AV} : Dp 0 l l := ⟨rfl⟩
instance {n : Nat} {a : AV} {l r : List AV} [h : Dp n l r] : Dp (n + 1) (a :: l) r := ⟨by rw [List.drop_succ_cons, h.h]⟩
/-- What is read at a place. -/
class Tak (k : Option Nat) (l : List AV) (v : outParam AV) : Prop where
  h : take k l = some v
instance {a : AV} {l : List AV} : Tak none (a :: l) a := ⟨rfl⟩
instance {n : Nat} {l r : List AV} [h : Tk n l r] : Tak (some n) l (.agg r) := ⟨by simp only [take, if_pos h.h.1, h.h.2]⟩
class Nth (l : List AV) (i : Nat) (v : outParam AV) : Prop where
  h : l[i]? = some v
instance {a : AV} {l : List AV} : Nth (a :: l) 0 a := ⟨rfl⟩
instance {a v : AV} {l : List AV} {i : Nat} [h : Nth l i v] : Nth (a :: l) (i + 1) v := ⟨by rw [List.getElem?_cons_succ, h.h]⟩
/-- What stands after a part is put. -/
class Put (l : List AV) (off : Nat) (vs : List AV) (r : outParam (List AV)) : Prop where
  h : put l off vs = some r
instance {l : List AV} : Put l 0 [] l := ⟨by simp [put]⟩
instance {a v : AV} {l vs r : List AV} [h : Put l 0 vs r] : Put (a :: l) 0 (v :: vs) (v :: r) := ⟨by
  have := h.h
  simp only [put, Nat.zero_add, List.take_zero, List.nil_append] at this ⊢
  split at this
  · cases this
    rename_i h1
    simp only [List.length_cons, Nat.succ_le_succ_iff, h1, if_true, List.drop_succ_cons, List.cons_append]
  · cases this⟩
instance {a : AV} {l vs r : List AV} {off : Nat} [h : Put l off vs r] : Put (a :: l) (off + 1) vs (a :: r) := ⟨by
  have := h.h
  simp only [put] at this ⊢
  split at this
  · cases this
    rename_i h1
    rw [if_pos (by simp only [List.length_cons]; omega), show off + 1 + vs.length = off + vs.length + 1 by omega]
    simp only [List.take_succ_cons, List.drop_succ_cons, List.cons_append]
  · cases this⟩
/-- A value that can be stored, and its cells. -/
class Cel (v : AV) (n : Nat) (cs : outParam (List AV)) : Prop where
  h : v.nt = true ∧ v.cells = cs ∧ cs.length = n
instance {b : Bool} : Cel (.bool b) 1 [.bool b] := ⟨rfl, rfl, rfl⟩
instance {k : IntKind} {n : Int} : Cel (.int k n) 1 [.int k n] := ⟨rfl, rfl, rfl⟩
instance {x : List Nat} : Cel (.str x) 1 [.str x] := ⟨rfl, rfl, rfl⟩
instance : Cel .nsl 1 [.nsl] := ⟨rfl, rfl, rfl⟩
instance : Cel .nptr 1 [.nptr] := ⟨rfl, rfl, rfl⟩
instance {a b : Nat} : Cel (.ptr a b) 1 [.ptr a b] := ⟨rfl, rfl, rfl⟩
instance {a b : Nat} {l : List AV} : Cel (.sl a b l) 1 [.sl a b l] := ⟨rfl, rfl, rfl⟩
class Cl (v : AV) (cs : outParam (List AV)) : Prop where
  h : v.nt = true ∧ v.cells = cs
instance {b : Bool} : Cl (.bool b) [.bool b] := ⟨rfl, rfl⟩
instance {k : IntKind} {n : Int} : Cl (.int k n) [.int k n] := ⟨rfl, rfl⟩
instance {x : List Nat} : Cl (.str x) [.str x] := ⟨rfl, rfl⟩
instance : Cl .nsl [.nsl] := ⟨rfl, rfl⟩
instance {a b : Nat} : Cl (.ptr a b) [.ptr a b] := ⟨rfl, rfl⟩
instance {a b : Nat} {l : List AV} : Cl (.sl a b l) [.sl a b l] := ⟨rfl, rfl⟩
instance {l : List AV} : Cl (.agg l) l := ⟨rfl, rfl⟩
class Len (l : List AV) (n : outParam Nat) : Prop where
  h : l.length = n
instance : Len [] 0 := ⟨rfl⟩
instance {a : AV} {l : List AV} {n : Nat} [h : Len l n] : Len (a :: l) (n + 1) := ⟨by rw [List.length_cons, h.h]⟩
instance {l : List AV} {n : Nat} [h : Len l n] : Cel (.agg l) n l := ⟨rfl, rfl, h.h⟩

/-! Operations that only reckon -/

class Op (N : Nat) (φ : Nat → AV) (o : IOp) (v : outParam AV) (c : outParam Bool) : Prop where
  h : c = true → ∀ s, evOp (lst N φ) s o = some (v, s)

section
variable {N : Nat} {φ : Nat → AV} {x y z : Opd} {a b v : AV} {c c' : Bool}
instance [h : Ev N φ x v c] : Op N φ (.mov x) v c := ⟨fun e s => by rw [evOp, h.h e]⟩
instance [h : Ev N φ x (.bool true) c] [h1 : Ev N φ y v c'] : Op N φ (.pick x y z) v (c && c') := ⟨fun e s => by
  rw [Bool.and_eq_true] at e; simp only [evOp, h.h e.1, h1.h e.2]⟩
instance [h : Ev N φ x (.bool false) c] [h1 : Ev N φ z v c'] : Op N φ (.pick x y z) v (c && c') := ⟨fun e s => by
  rw [Bool.and_eq_true] at e; simp only [evOp, h.h e.1, h1.h e.2]⟩
instance {i o : Nat} [h : Ev N φ x (.ptr i o) c] : Op N φ (.nilchk x) (.ptr i o) c := ⟨fun e s => by simp only [evOp, h.h e]⟩
instance {l : List AV} [h : Ev N φ x (.iptr l) c] : Op N φ (.nilchk x) (.iptr l) c := ⟨fun e s => by simp only [evOp, h.h e]⟩
instance (priority := high) {i p : Nat} [h : Ev N φ x (.ptr i 0) c] : Op N φ (.fld p x) (.ptr i p) c := ⟨fun e s => by simp only [evOp, h.h e, Nat.zero_add]⟩
instance {i o p : Nat} [h : Ev N φ x (.ptr i o) c] : Op N φ (.fld p x) (.ptr i (o + p)) c := ⟨fun e s => by simp only [evOp, h.h e]⟩
instance fldI {l : List AV} {p : Nat} {r : List AV} [h : Ev N φ x (.iptr l) c] [h1 : Dp p l r] : Op N φ (.fld p x) (.iptr r) c := ⟨fun e s => by simp only [evOp, h.h e, h1.h]⟩
instance {b : Bool} [h : Ev N φ x (.bool b) c] : Op N φ (.un .not x) (.bool (!b)) c := ⟨fun e s => by simp only [evOp, h.h e]⟩
instance (priority := high) [h : Ev N φ x (.bool true) c] : Op N φ (.un .not x) (.bool false) c := ⟨fun e s => by simp only [evOp, h.h e]; rfl⟩
instance (priority := high) [h : Ev N φ x (.bool false) c] : Op N φ (.un .not x) (.bool true) c := ⟨fun e s => by simp only [evOp, h.h e]; rfl⟩
instance {j k : IntKind} {n : Int} [h : Ev N φ x (.int j n) c] : Op N φ (.conv k x) (.int k (wrapF k n)) c := ⟨fun e s => by simp only [evOp, h.h e]⟩
instance {l : List AV} {i : Nat} [h : Ev N φ x (.tup l) c] [h1 : Nth l i v] : Op N φ (.ext x i) v c := ⟨fun e s => by simp only [evOp, h.h e, h1.h]⟩
instance {l : List AV} {k : Option Nat} [h : Ev N φ x (.iptr l) c] [h1 : Tak k l v] : Op N φ (.load k x) v c := ⟨fun e s => by simp only [evOp, h.h e, cellsAt, h1.h]⟩
instance {f : Nat} {vs ws : List AV} {p q : List Opd} [h : Evs N φ p vs c] [h1 : Evs N φ q ws c'] : Op N φ (.mkfn f p q) (.fn f vs ws) (c && c') := ⟨fun e s => by
  rw [Bool.and_eq_true] at e; simp only [evOp, h.h e.1, h1.h e.2]⟩
instance {s : List Nat} [h : Ev N φ x (.str s) c] : Op N φ (.len true x) (.int .i64 (s.length : Int)) c := ⟨fun e s => by simp only [evOp, h.h e]; rfl⟩
instance {t n : Nat} {l : List AV} [h : Ev N φ x (.sl t n l) c] : Op N φ (.len false x) (.int .i64 (l.length : Int)) c := ⟨fun e s => by simp only [evOp, h.h e]; rfl⟩
instance [h : Ev N φ x .nsl c] : Op N φ (.len false x) (.int .i64 0) c := ⟨fun e s => by simp only [evOp, h.h e]⟩
instance [h : Ev N φ x .nptr c] [h1 : Ev N φ y .nptr c'] : Op N φ (.eqp false x y) (.bool true) (c && c') := ⟨fun e s => by
  rw [Bool.and_eq_true] at e; simp only [evOp, h.h e.1, h1.h e.2]; rfl⟩
instance [h : Ev N φ x .nptr c] [h1 : Ev N φ y .nptr c'] : Op N φ (.eqp true x y) (.bool false) (c && c') := ⟨fun e s => by
  rw [Bool.and_eq_true] at e; simp only [evOp, h.h e.1, h1.h e.2]; rfl⟩
instance {i o : Nat} [h : Ev N φ x (.ptr i o) c] [h1 : Ev N φ y .nptr c'] {g : Bool} : Op N φ (.eqp g x y) (.bool g) (c && c') := ⟨fun e s => by
  rw [Bool.and_eq_true] at e; simp only [evOp, h.h e.1, h1.h e.2]⟩
instance [h : Ev N φ x .nsl c] [h1 : Ev N φ y .nsl c'] : Op N φ (.eqs false x y) (.bool true) (c && c') := ⟨fun e s => by
  rw [Bool.and_eq_true] at e; simp only [evOp, h.h e.1, h1.h e.2]; rfl⟩
instance [h : Ev N φ x .nsl c] [h1 : Ev N φ y .nsl c'] : Op N φ (.eqs true x y) (.bool false) (c && c') := ⟨fun e s => by
  rw [Bool.and_eq_true] at e; simp only [evOp, h.h e.1, h1.h e.2]; rfl⟩
instance {t n : Nat} {l : List AV} [h : Ev N φ x (.sl t n l) c] [h1 : Ev N φ y .nsl c'] {g : Bool} : Op N φ (.eqs g x y) (.bool g) (c && c') := ⟨fun e s => by
  rw [Bool.and_eq_true] at e; simp only [evOp, h.h e.1, h1.h e.2]⟩
instance {p q : Bool} [h : Ev N φ x (.bool p) c] [h1 : Ev N φ y (.bool q) c'] : Op N φ (.eqb false x y) (.bool (p == q)) (c && c') := ⟨fun e s => by
  rw [Bool.and_eq_true] at e; simp only [evOp, h.h e.1, h1.h e.2]; rfl⟩
instance {s : List Nat} [h : Ev N φ x (.str s) c] : Op N φ (.s2b x) (.sl 0 1 (s.map fun (c : Nat) => AV.int .u8 (c : Int))) c := ⟨fun e s => by simp only [evOp, h.h e]; rfl⟩

class Fil (N : Nat) (φ : Nat → AV) (cs : List AV) (l : List (Nat × Nat × Opd)) (r : outParam (List AV)) (c : outParam Bool) : Prop where
  h : c = true → fills cs (lst N φ) l = some r
instance {cs : List AV} : Fil N φ cs [] cs true := ⟨fun _ => rfl⟩
instance {cs vs cs1 r : List AV} {off sz : Nat} {l : List (Nat × Nat × Opd)} [h : Ev N φ x v c] [h1 : Cel v sz vs] [h2 : Put cs off vs cs1] [h3 : Fil N φ cs1 l r c'] : Fil N φ cs ((off, sz, x) :: l) r (c && c') := ⟨fun e => by
  rw [Bool.and_eq_true] at e
  simp only [fills, h.h e.1, h1.h.1, h1.h.2.1, h1.h.2.2, and_self, if_true, h2.h, h3.h e.2]⟩
instance {cs r : List AV} {l : List (Nat × Nat × Opd)} [h : Fil N φ cs l r c] : Op N φ (.build cs l) (.agg r) c := ⟨fun e s => by simp only [evOp, h.h e]⟩

/-! Results of arithmetic -/
class Bin (op : BinOp) (a b : AV) (v : outParam AV) : Prop where
  h : bin op a b = some v
instance {k : IntKind} {m n : Int} : Bin .add (.int k m) (.int k n) (.int k (wrapF k (m + n))) := ⟨by simp [bin, binInt]⟩
instance {k : IntKind} {m n : Int} : Bin .sub (.int k m) (.int k n) (.int k (wrapF k (m - n))) := ⟨by simp [bin, binInt]⟩
instance {k : IntKind} {m n : Int} : Bin .mul (.int k m) (.int k n) (.int k (wrapF k (m * n))) := ⟨by simp [bin, binInt]⟩
instance {k : IntKind} {m n : Int} : Bin .and (.int k m) (.int k n) (.int k (wrapF k (Nat.land (toN k m) (toN k n) : Nat))) := ⟨by simp only [bin, binInt, if_true]; rfl⟩
instance {k : IntKind} {m n : Int} : Bin .or (.int k m) (.int k n) (.int k (wrapF k (Nat.lor (toN k m) (toN k n) : Nat))) := ⟨by simp only [bin, binInt, if_true]; rfl⟩
instance {m : Int} : Bin .shr (.int .u64 m) (.int .u64 7) (.int .u64 (m / 128)) := ⟨by
  simp only [bin, shiftInt, bitsOf]; rw [if_neg (by decide)]
  rw [show Int.ofNat (2 ^ min (Int.toNat 7) 64) = 128 from rfl, Int.fdiv_eq_ediv_of_nonneg _ (by decide)]⟩
instance {m : Int} : Bin .shl (.int .u64 m) (.int .u64 7) (.int .u64 (wrapF .u64 (m * 128))) := ⟨by
  simp only [bin, shiftInt, bitsOf]; rw [if_neg (by decide)]
  rw [show Int.ofNat (2 ^ min (Int.toNat 7) 64) = 128 from rfl]⟩
instance {op : BinOp} [h : Ev N φ x a c] [h1 : Ev N φ y b c'] [h2 : Bin op a b v] : Op N φ (.bin op x y) v (c && c') := ⟨fun e s => by
  rw [Bool.and_eq_true] at e; simp only [evOp, h.h e.1, h1.h e.2, h2.h]⟩

/-! Comparisons: p if true, q if false -/
class Cmp (op : BinOp) (a b : AV) (p q : outParam Prop) : Prop where
  h : ∃ r, bin op a b = some (.bool r) ∧ (r = true → p) ∧ (r = false → q)
instance {k : IntKind} {m n : Int} : Cmp .eql (.int k m) (.int k n) (m = n) (m ≠ n) := ⟨⟨_, by simp only [bin, binInt, if_true], of_decide_eq_true, of_decide_eq_false⟩⟩
instance {k : IntKind} {m n : Int} : Cmp .neq (.int k m) (.int k n) (m ≠ n) (m = n) := ⟨⟨!decide (m = n), by simp only [bin, binInt, if_true], by simp, by simp⟩⟩
instance {k : IntKind} {m n : Int} : Cmp .lss (.int k m) (.int k n) (m < n) (n ≤ m) := ⟨⟨_, by simp only [bin, binInt, if_true], of_decide_eq_true, fun e => by have := of_decide_eq_false e; omega⟩⟩
instance {k : IntKind} {m n : Int} : Cmp .leq (.int k m) (.int k n) (m ≤ n) (n < m) := ⟨⟨_, by simp only [bin, binInt, if_true], of_decide_eq_true, fun e => by have := of_decide_eq_false e; omega⟩⟩
instance {k : IntKind} {m n : Int} : Cmp .gtr (.int k m) (.int k n) (n < m) (m ≤ n) := ⟨⟨_, by simp only [bin, binInt, if_true], of_decide_eq_true, fun e => by have := of_decide_eq_false e; omega⟩⟩
instance {k : IntKind} {m n : Int} : Cmp .geq (.int k m) (.int k n) (n ≤ m) (m < n) := ⟨⟨_, by simp only [bin, binInt, if_true], of_decide_eq_true, fun e => by have := of_decide_eq_false e; omega⟩⟩
instance {m n : List Nat} : Cmp .leq (.str m) (.str n) ((bytesLess m n || decide (m = n)) = true) ((bytesLess m n || decide (m = n)) = false) := ⟨⟨_, by simp only [bin, binStr], id, id⟩⟩
instance {m n : List Nat} : Cmp .geq (.str m) (.str n) (bytesLess m n = false) (bytesLess m n = true) := ⟨⟨!bytesLess m n, by simp only [bin, binStr], by simp, by simp⟩⟩
instance {m n : List Nat} : Cmp .eql (.str m) (.str n) (m = n) (m ≠ n) := ⟨⟨_, by simp only [bin, binStr], of_decide_eq_true, of_decide_eq_false⟩⟩
instance {m n : List Nat} : Cmp .neq (.str m) (.str n) (m ≠ n) (m = n) := ⟨⟨!decide (m = n), by simp only [bin, binStr], by simp, by simp⟩⟩
end

section
variable {E : Env} {N : Nat} {φ : Nat → AV} {s s' : St} {Q : X → (Nat → AV) → St → Prop} {K : (Nat → AV) → St → Prop} {d t f : Nat} {o : IOp} {r : List IStmt} {v : AV}

theorem cal_fn {N : Nat} {body : ICode} {res : List Res} {keep : Keep} {args : List AV} {k : AV → St → Prop} (hs : E.sp f = none) (hf : E.fn f = some ⟨N, body, res, keep, false⟩) (hl : Nat.ble args.length N = true)
    (h : Wp E N body (φ0 args) s (Rt N res keep s.next k)) : Cal E f args s k := by
  obtain ⟨n, x, φ', s1, h1, h2⟩ := h
  have hl' : args.length ≤ N := Nat.le_of_ble_eq_true hl
  have e : ∀ vs, resV (lst N φ') s1 res = some vs → outs ⟨N, body, res, keep, false⟩ s.next (lst N φ') s1 = some (packR vs, s1.out keep s.next) := by
    intro vs hv; simp only [outs, hv]; rfl
  cases x with
  | exit i => exact h2.elim
  | normal =>
    obtain ⟨vs, h3, h4⟩ := h2
    refine ⟨_, _, ⟨n, ?_⟩, h4⟩
    simp only [evCall, hs, evCallF, hf, frame0_eq (fi := ⟨N, body, res, keep, false⟩) hl', h1, finish, runD, e vs h3]
  | ret =>
    obtain ⟨vs, h3, h4⟩ := h2
    refine ⟨_, _, ⟨n, ?_⟩, h4⟩
    simp only [evCall, hs, evCallF, hf, frame0_eq (fi := ⟨N, body, res, keep, false⟩) hl', h1, finish, runD, e vs h3]

/-- A call of a told function. -/
theorem cal_sp {args : List AV} {k : AV → St → Prop} {h : List AV → St → Option (AV × St)} {v : AV} {s' : St} (hs : E.sp f = some h) (he : h args s = some (v, s')) (hk : k v s') : Cal E f args s k :=
  ⟨v, s', ⟨0, by simp only [evCall, hs, he]⟩, hk⟩

theorem ret_ret {res : List Res} {keep : Keep} {n : Nat} {k : AV → St → Prop} {vs : List AV} (hv : resV (lst N φ) s res = some vs) (hk : k (packR vs) (s.out keep n)) : Rt N res keep n k .ret φ s := ⟨vs, hv, hk⟩
theorem ret_normal {res : List Res} {keep : Keep} {n : Nat} {k : AV → St → Prop} {vs : List AV} (hv : resV (lst N φ) s res = some vs) (hk : k (packR vs) (s.out keep n)) : Rt N res keep n k .normal φ s := ⟨vs, hv, hk⟩


theorem bl_cases {b : Bool} : b = true ∨ b = false := by cases b <;> simp

/-! Steps -/

theorem s_p {c : Bool} [h0 : Op N φ o v c] (hc : c = true) (h : WpO E N r (upd' φ d v) s K) : WpO E N (.op (some d) none o :: r) φ s K := wpO_op (h0.h hc s) h
/-- An operation under a condition that holds. -/
theorem s_pg {b c c' : Bool} [h1 : At φ t (.bool b) c] [h0 : Op N φ o v c'] (hc : (Nat.blt t N && (c && c')) = true) (h : WpO E N r (upd' φ d v) s K) : WpO E N (.op (some d) (some (t, b)) o :: r) φ s K := by
  rw [Bool.and_eq_true, Bool.and_eq_true] at hc
  exact wpO_g (by rw [want (blt_lt hc.1) (h1.h hc.2.1)]; simp) (h0.h hc.2.2 s) h
theorem s_pn {b b' c : Bool} [h1 : At φ t (.bool b') c] (hc : (Nat.blt t N && (c && (b' != b))) = true) (h : WpO E N r (upd' φ d .undef) s K) : WpO E N (.op (some d) (some (t, b)) o :: r) φ s K := by
  rw [Bool.and_eq_true, Bool.and_eq_true] at hc
  exact wpO_gn (by rw [want (blt_lt hc.1) (h1.h hc.2.1)]; simpa using hc.2.2) h
theorem s_pu {b c : Bool} [h1 : At φ t .undef c] (hc : (Nat.blt t N && c) = true) (h : WpO E N r (upd' φ d .undef) s K) : WpO E N (.op (some d) (some (t, b)) o :: r) φ s K := by
  rw [Bool.and_eq_true] at hc
  exact wpO_gn (by simp only [wanted, lst_getD φ (blt_lt hc.1), h1.h hc.2]) h
theorem cmp_op {op : BinOp} {x y : Opd} {a b : AV} {p q : Prop} {c c' : Bool} [h : Ev N φ x a c] [h1 : Ev N φ y b c'] [h2 : Cmp op a b p q] (hc : (c && c') = true) :
    ∃ w, evOp (lst N φ) s (.bin op x y) = some (.bool w, s) ∧ (w = true → p) ∧ (w = false → q) := by
  rw [Bool.and_eq_true] at hc
  obtain ⟨w, e, k1, k2⟩ := h2.h
  exact ⟨w, by simp only [evOp, h.h hc.1, h1.h hc.2, e], k1, k2⟩
theorem s_cmp {op : BinOp} {x y : Opd} {a b : AV} {p q : Prop} {c c' : Bool} [h : Ev N φ x a c] [h1 : Ev N φ y b c'] [h2 : Cmp op a b p q] (hc : (c && c') = true)
    (ht : p → WpO E N r (upd' φ d (.bool true)) s K) (hf : q → WpO E N r (upd' φ d (.bool false)) s K) : WpO E N (.op (some d) none (.bin op x y) :: r) φ s K := by
  obtain ⟨w, e, k1, k2⟩ := cmp_op (s := s) hc (h := h) (h1 := h1) (h2 := h2)
  cases w with
  | true => exact wpO_op e (ht (k1 rfl))
  | false => exact wpO_op e (hf (k2 rfl))
theorem s_ct {op : BinOp} {x y : Opd} {a b : AV} {p q : Prop} {c c' : Bool} [h : Ev N φ x a c] [h1 : Ev N φ y b c'] [h2 : Cmp op a b p q] (hc : (c && c') = true) (hq : ¬ q)
    (ht : p → WpO E N r (upd' φ d (.bool true)) s K) : WpO E N (.op (some d) none (.bin op x y) :: r) φ s K := s_cmp hc ht fun e => absurd e hq
theorem s_cf {op : BinOp} {x y : Opd} {a b : AV} {p q : Prop} {c c' : Bool} [h : Ev N φ x a c] [h1 : Ev N φ y b c'] [h2 : Cmp op a b p q] (hc : (c && c') = true) (hp : ¬ p)
    (hf : q → WpO E N r (upd' φ d (.bool false)) s K) : WpO E N (.op (some d) none (.bin op x y) :: r) φ s K := s_cmp hc (fun e => absurd e hp) hf
theorem s_cmpg {op : BinOp} {x y : Opd} {a b : AV} {p q : Prop} {g c c' c2 : Bool} [h0 : At φ t (.bool g) c2] [h : Ev N φ x a c] [h1 : Ev N φ y b c'] [h2 : Cmp op a b p q] (hc : (Nat.blt t N && (c2 && (c && c'))) = true)
    (ht : p → WpO E N r (upd' φ d (.bool true)) s K) (hf : q → WpO E N r (upd' φ d (.bool false)) s K) : WpO E N (.op (some d) (some (t, g)) (.bin op x y) :: r) φ s K := by
  rw [Bool.and_eq_true, Bool.and_eq_true] at hc
  have hw : wanted (lst N φ) (some (t, g)) = true := by rw [want (blt_lt hc.1) (h0.h hc.2.1)]; simp
  obtain ⟨w, e, k1, k2⟩ := cmp_op (s := s) hc.2.2 (h := h) (h1 := h1) (h2 := h2)
  cases w with
  | true => exact wpO_g hw e (ht (k1 rfl))
  | false => exact wpO_g hw e (hf (k2 rfl))
theorem s_ctg {op : BinOp} {x y : Opd} {a b : AV} {p q : Prop} {g c c' c2 : Bool} [h0 : At φ t (.bool g) c2] [h : Ev N φ x a c] [h1 : Ev N φ y b c'] [h2 : Cmp op a b p q] (hc : (Nat.blt t N && (c2 && (c && c'))) = true) (hq : ¬ q)
    (ht : p → WpO E N r (upd' φ d (.bool true)) s K) : WpO E N (.op (some d) (some (t, g)) (.bin op x y) :: r) φ s K := s_cmpg hc ht fun e => absurd e hq
theorem s_cfg {op : BinOp} {x y : Opd} {a b : AV} {p q : Prop} {g c c' c2 : Bool} [h0 : At φ t (.bool g) c2] [h : Ev N φ x a c] [h1 : Ev N φ y b c'] [h2 : Cmp op a b p q] (hc : (Nat.blt t N && (c2 && (c && c'))) = true) (hp : ¬ p)
    (hf : q → WpO E N r (upd' φ d (.bool false)) s K) : WpO E N (.op (some d) (some (t, g)) (.bin op x y) :: r) φ s K := s_cmpg hc (fun e => absurd e hp) hf
/-- An operation on the memory. -/
theorem s_o (he : evOp (lst N φ) s o = some (v, s')) (h : WpO E N r (upd' φ d v) s' K) : WpO E N (.op (some d) none o :: r) φ s K := wpO_op he h
theorem s_og {g c2 : Bool} [h0 : At φ t (.bool g) c2] (hc : (Nat.blt t N && c2) = true) (he : evOp (lst N φ) s o = some (v, s')) (h : WpO E N r (upd' φ d v) s' K) : WpO E N (.op (some d) (some (t, g)) o :: r) φ s K := by
  rw [Bool.and_eq_true] at hc
  exact wpO_g (by rw [want (blt_lt hc.1) (h0.h hc.2)]; simp) he h
theorem ld {k : Option Nat} {x : Opd} {id off ty : Nat} {cs cs' : List AV} {c : Bool} [h0 : Ev N φ x (.ptr id off) c] (hc : c = true) (hl : look s.objs id = some (.cells ty cs)) [h1 : Dp off cs cs'] [h2 : Tak k cs' v] :
    evOp (lst N φ) s (.load k x) = some (v, s) := by simp only [evOp, h0.h hc, cellsAt, hl, h1.h, h2.h]
theorem s_ld {k : Option Nat} {x : Opd} {id off ty : Nat} {cs cs' : List AV} {c : Bool} [h0 : Ev N φ x (.ptr id off) c] (hc : c = true) (hl : look s.objs id = some (.cells ty cs)) [h1 : Dp off cs cs'] [h2 : Tak k cs' v]
    (h : WpO E N r (upd' φ d v) s K) : WpO E N (.op (some d) none (.load k x) :: r) φ s K := wpO_op (ld hc hl) h
theorem s_ldg {k : Option Nat} {x : Opd} {id off ty : Nat} {cs cs' : List AV} {g c c2 : Bool} [hg : At φ t (.bool g) c2] [h0 : Ev N φ x (.ptr id off) c] (hc : (Nat.blt t N && (c2 && c)) = true) (hl : look s.objs id = some (.cells ty cs)) [h1 : Dp off cs cs'] [h2 : Tak k cs' v]
    (h : WpO E N r (upd' φ d v) s K) : WpO E N (.op (some d) (some (t, g)) (.load k x) :: r) φ s K := by
  rw [Bool.and_eq_true, Bool.and_eq_true] at hc
  exact s_og (h0 := hg) (by rw [Bool.and_eq_true]; exact ⟨hc.1, hc.2.1⟩) (ld hc.2.2 hl) h
theorem s_st {n : Nat} {x y : Opd} {id off ty : Nat} {cs vs cs' : List AV} {c c' : Bool} [h0 : Ev N φ x (.ptr id off) c] [h1 : Ev N φ y v c'] (hc : (c && c') = true) [h2 : Cel v n vs] (hF : s.Fr) (hl : look s.objs id = some (.cells ty cs)) [h3 : Put cs off vs cs']
    (h : ∀ s', Up s s' [id] → look s'.objs id = some (.cells ty cs') → WpO E N r φ s' K) : WpO E N (.op none none (.store n x y) :: r) φ s K := by
  rw [Bool.and_eq_true] at hc
  refine wpO_opn (s' := s.set id (.cells ty cs')) (v := .undef) ?_ (h _ (up_set hF _ _) (look_set_self hl))
  simp only [evOp, h0.h hc.1, h1.h hc.2, h2.h.1, h2.h.2.1, h2.h.2.2, and_self, if_true, storeAt, hl, h3.h]
theorem s_al {ty : Nat} {cs : List AV} (hF : s.Fr) (h : ∀ s' p, Up s s' [] → look s'.objs p = some (.cells ty cs) → s.next ≤ p → WpO E N r (upd' φ d (.ptr p 0)) s' K) : WpO E N (.op (some d) none (.alloc ty cs) :: r) φ s K :=
  wpO_op (by rw [evOp]) (h _ s.next (up_add hF _) look_add_self (Nat.le_refl _))
theorem s_bx {ty : Nat} {x : Opd} {cs : List AV} {c : Bool} [h0 : Ev N φ x v c] (hc : c = true) [h1 : Cl v cs] (hF : s.Fr) (h : ∀ s' p, Up s s' [] → look s'.objs p = some (.cells ty cs) → s.next ≤ p → WpO E N r (upd' φ d (.ptr p 0)) s' K) :
    WpO E N (.op (some d) none (.box ty x) :: r) φ s K :=
  wpO_op (by simp only [evOp, h0.h hc, h1.h.1, if_true, h1.h.2]) (h _ s.next (up_add hF _) look_add_self (Nat.le_refl _))
/-- Addition that stays within its bounds. -/
theorem wrap64 {n : Int} (h1 : -9223372036854775808 ≤ n) (h2 : n < 9223372036854775808) : wrapF .i64 n = n := by simp only [wrapF]; split <;> omega
theorem s_add {x y : Opd} {m n : Int} {c c' : Bool} [h0 : Ev N φ x (.int .i64 m) c] [h1 : Ev N φ y (.int .i64 n) c'] (hc : (c && c') = true) (hb : -9223372036854775808 ≤ m + n ∧ m + n < 9223372036854775808)
    (h : WpO E N r (upd' φ d (.int .i64 (m + n))) s K) : WpO E N (.op (some d) none (.bin .add x y) :: r) φ s K := by
  rw [Bool.and_eq_true] at hc
  exact wpO_op (by simp only [evOp, h0.h hc.1, h1.h hc.2, bin, binInt, if_true, wrap64 hb.1 hb.2]) h
theorem s_sub {x y : Opd} {m n : Int} {c c' : Bool} [h0 : Ev N φ x (.int .i64 m) c] [h1 : Ev N φ y (.int .i64 n) c'] (hc : (c && c') = true) (hb : -9223372036854775808 ≤ m - n ∧ m - n < 9223372036854775808)
    (h : WpO E N r (upd' φ d (.int .i64 (m - n))) s K) : WpO E N (.op (some d) none (.bin .sub x y) :: r) φ s K := by
  rw [Bool.and_eq_true] at hc
  exact wpO_op (by simp only [evOp, h0.h hc.1, h1.h hc.2, bin, binInt, if_true, wrap64 hb.1 hb.2]) h
theorem s_addg {x y : Opd} {m n : Int} {g c c' c2 : Bool} [hg : At φ t (.bool g) c2] [h0 : Ev N φ x (.int .i64 m) c] [h1 : Ev N φ y (.int .i64 n) c'] (hc : (Nat.blt t N && (c2 && (c && c'))) = true) (hb : -9223372036854775808 ≤ m + n ∧ m + n < 9223372036854775808)
    (h : WpO E N r (upd' φ d (.int .i64 (m + n))) s K) : WpO E N (.op (some d) (some (t, g)) (.bin .add x y) :: r) φ s K := by
  rw [Bool.and_eq_true, Bool.and_eq_true, Bool.and_eq_true] at hc
  exact s_og (h0 := hg) (by rw [Bool.and_eq_true]; exact ⟨hc.1, hc.2.1⟩) (by simp only [evOp, h0.h hc.2.2.1, h1.h hc.2.2.2, bin, binInt, if_true, wrap64 hb.1 hb.2]) h
theorem s_subg {x y : Opd} {m n : Int} {g c c' c2 : Bool} [hg : At φ t (.bool g) c2] [h0 : Ev N φ x (.int .i64 m) c] [h1 : Ev N φ y (.int .i64 n) c'] (hc : (Nat.blt t N && (c2 && (c && c'))) = true) (hb : -9223372036854775808 ≤ m - n ∧ m - n < 9223372036854775808)
    (h : WpO E N r (upd' φ d (.int .i64 (m - n))) s K) : WpO E N (.op (some d) (some (t, g)) (.bin .sub x y) :: r) φ s K := by
  rw [Bool.and_eq_true, Bool.and_eq_true, Bool.and_eq_true] at hc
  exact s_og (h0 := hg) (by rw [Bool.and_eq_true]; exact ⟨hc.1, hc.2.1⟩) (by simp only [evOp, h0.h hc.2.2.1, h1.h hc.2.2.2, bin, binInt, if_true, wrap64 hb.1 hb.2]) h
/-- An element of a slice. -/
theorem s_ix {sz tg : Nat} {x y : Opd} {l : List AV} {i : Int} {j : IntKind} {cs : List AV} {c c' : Bool} [h0 : Ev N φ x (.sl tg sz l) c] [h1 : Ev N φ y (.int j i) c'] (hc : (c && c') = true) (hi : 0 ≤ i) (he : l[i.toNat]? = some v) (hcs : v.cells = cs)
    (h : WpO E N r (upd' φ d (.iptr cs)) s K) : WpO E N (.op (some d) none (.ixs sz x y) :: r) φ s K := by
  rw [Bool.and_eq_true] at hc
  exact wpO_op (by simp only [evOp, h0.h hc.1, h1.h hc.2, if_pos hi, if_true, he, hcs]) h
theorem s_ixg {sz tg : Nat} {x y : Opd} {l : List AV} {i : Int} {j : IntKind} {cs : List AV} {g c c' c2 : Bool} [hg : At φ t (.bool g) c2] [h0 : Ev N φ x (.sl tg sz l) c] [h1 : Ev N φ y (.int j i) c'] (hc : (Nat.blt t N && (c2 && (c && c'))) = true) (hi : 0 ≤ i) (he : l[i.toNat]? = some v) (hcs : v.cells = cs)
    (h : WpO E N r (upd' φ d (.iptr cs)) s K) : WpO E N (.op (some d) (some (t, g)) (.ixs sz x y) :: r) φ s K := by
  rw [Bool.and_eq_true, Bool.and_eq_true, Bool.and_eq_true] at hc
  exact s_og (h0 := hg) (by rw [Bool.and_eq_true]; exact ⟨hc.1, hc.2.1⟩) (by simp only [evOp, h0.h hc.2.2.1, h1.h hc.2.2.2, if_pos hi, if_true, he, hcs]) h

theorem s_k {l : List Opd} {args : List AV} {c : Bool} [h0 : Evs N φ l args c] (ha : c = true) (hc : Cal E f args s (fun v s' => WpO E N r (upd' φ d v) s' K)) : WpO E N (.call (some d) none (.f f) l :: r) φ s K := by
  obtain ⟨v, s', h1, h2⟩ := hc
  exact wpO_call (h0.h ha) h1 h2
theorem s_kn {l : List Opd} {args : List AV} {c : Bool} [h0 : Evs N φ l args c] (ha : c = true) (hc : Cal E f args s (fun _ s' => WpO E N r φ s' K)) : WpO E N (.call none none (.f f) l :: r) φ s K := by
  obtain ⟨v, s', h1, h2⟩ := hc
  exact wpO_calln (h0.h ha) h1 h2
theorem s_kf {x : Opd} {first cap : List AV} {l : List Opd} {args : List AV} {c c' : Bool} [hf : Ev N φ x (.fn f first cap) c] [h0 : Evs N φ l args c'] (ha : (c && c') = true) (hc : Cal E f (first ++ (args ++ cap)) s (fun v s' => WpO E N r (upd' φ d v) s' K)) :
    WpO E N (.call (some d) none x l :: r) φ s K := by
  rw [Bool.and_eq_true] at ha
  obtain ⟨v, s', h1, h2⟩ := hc
  exact wpO_callf (hf.h ha.1) (by rw [h0.h ha.2]) h1 h2
theorem s_kg {b : Bool} {l : List Opd} {args : List AV} {c c' : Bool} [hg : At φ t (.bool b) c'] [h0 : Evs N φ l args c] (ha : (Nat.blt t N && (c' && c)) = true) (hc : Cal E f args s (fun v s' => WpO E N r (upd' φ d v) s' K)) :
    WpO E N (.call (some d) (some (t, b)) (.f f) l :: r) φ s K := by
  rw [Bool.and_eq_true, Bool.and_eq_true] at ha
  have hw : (lst N φ).getD t .undef = .bool b := by rw [lst_getD φ (show t < N from blt_lt ha.1), hg.h ha.2.1]
  obtain ⟨v, s1, ⟨m, hm⟩, n, φ', s2, h1, h2⟩ := hc
  refine ⟨max n m, φ', s2, ?_, h2⟩
  have e1 := evCall_mono (ev_mono E (Nat.le_max_right n m)) hm
  have e2 := evOps_mono (ev_mono E (Nat.le_max_left n m)) h1
  simp only [evOps, evSt, wanted, hw, beq_self_eq_true, if_true, Opd.ev, List.nil_append, List.append_nil, setDst, IStmt.dst, lst_set]
  rw [show List.map (Opd.ev (lst N φ)) l = args from h0.h ha.2.2, e1]
  exact e2
theorem s_kgn {b b' : Bool} {x : Opd} {l : List Opd} {c : Bool} [hg : At φ t (.bool b') c] (ha : (Nat.blt t N && (c && (b' != b))) = true) (h : WpO E N r (upd' φ d .undef) s K) : WpO E N (.call (some d) (some (t, b)) x l :: r) φ s K := by
  rw [Bool.and_eq_true, Bool.and_eq_true] at ha
  have hw : (lst N φ).getD t .undef = .bool b' := by rw [lst_getD φ (show t < N from blt_lt ha.1), hg.h ha.2.1]
  obtain ⟨n, φ', s2, h1, h2⟩ := h
  refine ⟨n, φ', s2, ?_, h2⟩
  have hb : (b' == b) = false := by simpa using ha.2.2
  simp only [evOps, evSt, wanted, hw, hb, Bool.false_eq_true, if_false, setDst, IStmt.dst, lst_set, h1]
theorem s_chk {c : Bool} [h0 : At φ d v c] (hc : (Nat.blt d N && c) = true) (he : evOp (lst N φ) s o = some (v, s')) (h : WpO E N r φ s' K) : WpO E N (.chk d none o :: r) φ s K := by
  rw [Bool.and_eq_true] at hc
  exact wpO_chk he (by rw [lst_getD φ (show d < N from blt_lt hc.1), h0.h hc.2]; exact eqb_self v) h
theorem s_nil (h : K φ s) : WpO E N [] φ s K := wpO_nil h

theorem s_w {ss : List IStmt} {b : ICode} (h : WpO E N ss φ s (fun φ s => Wp E N b φ s Q)) : Wp E N (.seq (.reg ss) b) φ s Q := wp_w h
theorem s_r {ss : List IStmt} (h : WpO E N ss φ s (Q .normal)) : Wp E N (.reg ss) φ s Q := wp_reg h
theorem s_q {a b : ICode} (h : Wp E N a φ s (Then E N b Q)) : Wp E N (.seq a b) φ s Q := wp_seq h
theorem s_then {b : ICode} (h : Wp E N b φ s Q) : Then E N b Q .normal φ s := h
theorem s_thenr {b : ICode} (h : Q .ret φ s) : Then E N b Q .ret φ s := h
theorem s_thene {b : ICode} {i : Nat} (h : Q (.exit i) φ s) : Then E N b Q (.exit i) φ s := h
theorem s_dt {x : Opd} {a b : ICode} {c : Bool} [h0 : Ev N φ x (.bool true) c] (hc : c = true) (h : Wp E N a φ s Q) : Wp E N (.cond x a b) φ s Q := wp_cond (h0.h hc) h
theorem s_df {x : Opd} {a b : ICode} {c : Bool} [h0 : Ev N φ x (.bool false) c] (hc : c = true) (h : Wp E N b φ s Q) : Wp E N (.cond x a b) φ s Q := wp_cond (h0.h hc) h
theorem s_d {x : Opd} {a b : ICode} {g c : Bool} [h0 : Ev N φ x (.bool g) c] (hc : c = true) (ht : g = true → Wp E N a φ s Q) (hf : g = false → Wp E N b φ s Q) : Wp E N (.cond x a b) φ s Q := by
  cases g with
  | true => exact wp_cond (h0.h hc) (ht rfl)
  | false => exact wp_cond (h0.h hc) (hf rfl)
theorem s_blk {i : Nat} {a : ICode} (h : Wp E N a φ s (Blocked i Q)) : Wp E N (.block i a) φ s Q := wp_block h
theorem s_bw {i : Nat} {ss : List IStmt} {b : ICode} (h : Wp E N (.seq (.reg ss) b) φ s (Blocked i Q)) : Wp E N (.block i (.seq (.reg ss) b)) φ s Q := wp_block h
theorem s_bq {i : Nat} {a b c : ICode} (h : Wp E N (.seq (.seq a b) c) φ s (Blocked i Q)) : Wp E N (.block i (.seq (.seq a b) c)) φ s Q := wp_block h
theorem s_bb {i : Nat} {ss : List IStmt} (h : Wp E N (.reg ss) φ s (Blocked i Q)) : Wp E N (.block i (.reg ss)) φ s Q := wp_block h
theorem s_bn {i : Nat} (h : Q .normal φ s) : Blocked i Q .normal φ s := h
theorem s_br {i : Nat} (h : Q .ret φ s) : Blocked i Q .ret φ s := h
theorem s_be {i : Nat} (h : Q .normal φ s) : Blocked i Q (.exit i) φ s := by simp only [Blocked, if_true]; exact h
theorem s_bo {i j : Nat} (hj : Nat.beq j i = false) (h : Q (.exit j) φ s) : Blocked i Q (.exit j) φ s := by
  simp only [Blocked]; rw [if_neg (fun e => by subst e; rw [Nat.beq_refl] at hj; cases hj)]; exact h
/-! Loops -/
def Lq (J : (Nat → AV) → St → Prop) (Q : X → (Nat → AV) → St → Prop) : X → (Nat → AV) → St → Prop
  | .normal, φ, s => J φ s
  | x, φ, s => Q x φ s
theorem s_ln {J : (Nat → AV) → St → Prop} (h : J φ s) : Lq J Q .normal φ s := h
theorem s_lr {J : (Nat → AV) → St → Prop} (h : Q .ret φ s) : Lq J Q .ret φ s := h
theorem s_le {J : (Nat → AV) → St → Prop} {i : Nat} (h : Q (.exit i) φ s) : Lq J Q (.exit i) φ s := h
/-- A loop: what holds at its head, and a measure. -/
theorem s_lp {a : ICode} {α : Type} (I : α → (Nat → AV) → St → Prop) (μ : α → Nat) (x : α) (h0 : I x φ s)
    (hstep : ∀ x φ s, I x φ s → Wp E N a φ s (Lq (fun φ' s' => ∃ x', μ x' < μ x ∧ I x' φ' s') Q)) : Wp E N (.loop a) φ s Q :=
  wp_loop I μ (fun x φ s h => (hstep x φ s h).mono fun y φ' s' h => by cases y <;> exact h) x φ s h0
/-- What holds between two parts. -/
theorem s_cut {a : ICode} (J : (Nat → AV) → St → Prop) (h : Wp E N a φ s (Lq J Q)) (hJ : ∀ φ s, J φ s → Q .normal φ s) : Wp E N a φ s Q :=
  h.mono fun y φ' s' h => by
    cases y with
    | normal => exact hJ _ _ h
    | ret => exact h
    | exit j => exact h
def Jq (i : Nat) (J : (Nat → AV) → St → Prop) (Q : X → (Nat → AV) → St → Prop) : X → (Nat → AV) → St → Prop
  | .normal, _, _ => False
  | .ret, φ, s => Q .ret φ s
  | .exit j, φ, s => if j = i then J φ s else Q (.exit j) φ s
theorem s_je {J : (Nat → AV) → St → Prop} {i : Nat} (h : J φ s) : Jq i J Q (.exit i) φ s := by simp only [Jq, if_true]; exact h
theorem s_jr {J : (Nat → AV) → St → Prop} {i : Nat} (h : Q .ret φ s) : Jq i J Q .ret φ s := h
theorem s_jo {J : (Nat → AV) → St → Prop} {i j : Nat} (hj : Nat.beq j i = false) (h : Q (.exit j) φ s) : Jq i J Q (.exit j) φ s := by
  simp only [Jq]; rw [if_neg (fun e => by subst e; rw [Nat.beq_refl] at hj; cases hj)]; exact h
/-- A loop within its block: what holds at its head, a measure, what holds behind it. -/
theorem s_lpj {a : ICode} {i : Nat} {α : Type} (I : α → (Nat → AV) → St → Prop) (μ : α → Nat) (J : (Nat → AV) → St → Prop) (x : α) (h0 : I x φ s)
    (hstep : ∀ x φ s, I x φ s → Wp E N a φ s (Lq (fun φ' s' => ∃ x', μ x' < μ x ∧ I x' φ' s') (Jq i J Q))) (hJ : ∀ φ s, J φ s → Q .normal φ s) : Wp E N (.block i (.loop a)) φ s Q := by
  refine wp_block ((s_lp (Q := Jq i J Q) I μ x h0 hstep).mono fun y φ' s' h => ?_)
  cases y with
  | normal => exact h.elim
  | ret => exact h
  | exit j =>
    simp only [Jq] at h
    simp only [Blocked]
    split at h
    · rename_i e; rw [if_pos e]; exact hJ _ _ h
    · rename_i e; rw [if_neg e]; exact h
/-- Results. -/
class Rs (N : Nat) (φ : Nat → AV) (l : List Res) (vs : outParam (List AV)) (c : outParam Bool) : Prop where
  h : c = true → ∀ s, resV (lst N φ) s l = some vs
instance : Rs N φ [] [] true := ⟨fun _ _ => rfl⟩
instance {l : List Res} {vs : List AV} {c c' : Bool} [h : At φ t v c] [hl : Rs N φ l vs c'] : Rs N φ (.tmp t :: l) (v :: vs) (Nat.blt t N && (c && c')) := ⟨fun e s => by
  rw [Bool.and_eq_true, Bool.and_eq_true] at e
  simp only [resV, hl.h e.2.2 s, lst_getD φ (show t < N from blt_lt e.1), h.h e.2.1]⟩
class Pk (vs : List AV) (v : outParam AV) : Prop where
  h : packR vs = v
instance {a : AV} : Pk [a] a := ⟨rfl⟩
instance : Pk [] (.tup []) := ⟨rfl⟩
instance {a b : AV} {l : List AV} : Pk (a :: b :: l) (.tup (a :: b :: l)) := ⟨rfl⟩
theorem s_ret {l : List Res} {vs : List AV} {keep : Keep} {n : Nat} {k : AV → St → Prop} {c : Bool} [h : Rs N φ l vs c] [hp : Pk vs v] (hc : c = true) (hk : k v (s.out keep n)) : Rt N l keep n k .ret φ s := ⟨vs, h.h hc s, by rw [hp.h]; exact hk⟩
theorem s_retn {l : List Res} {vs : List AV} {keep : Keep} {n : Nat} {k : AV → St → Prop} {c : Bool} [h : Rs N φ l vs c] [hp : Pk vs v] (hc : c = true) (hk : k v (s.out keep n)) : Rt N l keep n k .normal φ s := ⟨vs, h.h hc s, by rw [hp.h]; exact hk⟩
/-- The results: a variable's cells, and a value. -/
theorem s_retc {u z id ty : Nat} {cs : List AV} {v w : AV} {keep : Keep} {n : Nat} {k : AV → St → Prop} {c c' : Bool} [h : At φ t (.ptr id 0) c] [h' : At φ u w c'] (hc : (Nat.blt t N && (Nat.blt u N && (c && c'))) = true) (hl : look s.objs id = some (.cells ty cs)) [h3 : Tak (some z) cs v]
    (hk : k (.tup [v, w]) (s.out keep n)) : Rt N [.cell t (some z), .tmp u] keep n k .ret φ s := by
  rw [Bool.and_eq_true, Bool.and_eq_true, Bool.and_eq_true] at hc
  refine ⟨[v, w], ?_, hk⟩
  simp only [resV, lst_getD φ (blt_lt hc.1), lst_getD φ (blt_lt hc.2.1), h.h hc.2.2.1, h'.h hc.2.2.2, cellsAt, hl, List.drop_zero, h3.h]
theorem s_rt (h : Q .ret φ s) : Wp E N .ret φ s Q := wp_ret h
theorem s_sk (h : Q .normal φ s) : Wp E N .skip φ s Q := wp_skip h
theorem s_ex {i : Nat} (h : Q (.exit i) φ s) : Wp E N (.exit i) φ s Q := wp_exit h

end

end Go.Am

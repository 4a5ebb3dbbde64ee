/- Operations that neither read nor write an object, continued. Slices, lengths, greatest and least. Operations on objects. -/
import Derived.Test.YtjacmplknlploaaGreatDoorW03
set_option linter.all false
namespace Go.Am

theorem RepV.str_inv {G : Gh} {b : List Nat} {x : Value} (h : RepV G (.str b) x) : ∃ s, x = .string s ∧ s.data.toList.map UInt8.toNat = b := by cases h; exact ⟨_, rfl, by assumption⟩
theorem RepV.agg_inv {G : Gh} {cs : List AV} {x : Value} (h : RepV G (.agg cs) x) : ∃ vs, x = .agg vs ∧ RepL G cs vs.toList ∧ ∀ a ∈ cs, a.one = true := by
  cases h with
  | agg cs vs hl h1 hr => exact ⟨vs, rfl, ⟨by simpa using hl, fun i a v x y => hr i a v x (by simpa using y)⟩, h1⟩
theorem RepV.tup_inv {G : Gh} {cs : List AV} {x : Value} (h : RepV G (.tup cs) x) : ∃ vs, x = .tuple vs ∧ RepL G cs vs.toList := by
  cases h with
  | tup cs vs hl hr => exact ⟨vs, rfl, ⟨by simpa using hl, fun i a v x y => hr i a v x (by simpa using y)⟩⟩
theorem RepV.ptr_inv {G : Gh} {id off : Nat} {x : Value} (h : RepV G (.ptr id off) x) : ∃ b o, x = .pointer (some ⟨b, o + off, none⟩) ∧ G.loc id = some (b, o) := by
  cases h; exact ⟨_, _, rfl, by assumption⟩

/-- A row of fixed cells. -/
def Fixed (G : Gh) (b o : Nat) (cs : List AV) : Prop :=
  ∃ vs : List Value, vs.length = cs.length ∧ (∀ (i : Nat) v, vs[i]? = some v → G.imm b (o + i) = some v) ∧ (∀ a ∈ cs, a.one = true) ∧ RepL G cs vs

theorem RepV.iptr_inv {G : Gh} {cs : List AV} {x : Value} (h : RepV G (.iptr cs) x) : ∃ b o, x = .pointer (some ⟨b, o, none⟩) ∧ Fixed G b o cs := by
  cases h with
  | iptr cs b o vs hl hi h1 hr => exact ⟨b, o, rfl, vs, hl, hi, h1, ⟨hl.symm, hr⟩⟩
theorem Fixed.iptr {G : Gh} {cs : List AV} {b o : Nat} (h : Fixed G b o cs) : RepV G (.iptr cs) (.pointer (some ⟨b, o, none⟩)) := by
  obtain ⟨vs, hl, hi, h1, hr⟩ := h
  exact .iptr cs b o vs hl hi h1 hr.2
theorem Fixed.drop {G : Gh} {cs : List AV} {b o : Nat} (h : Fixed G b o cs) (n : Nat) : Fixed G b (o + n) (cs.drop n) := by
  obtain ⟨vs, hl, hi, h1, hr⟩ := h
  exact ⟨vs.drop n, by simp [hl], fun i v e => by rw [Nat.add_assoc]; exact hi _ v (by simpa using e), fun a ha => h1 a (List.mem_of_mem_drop ha), hr.drop n⟩
theorem Fixed.take {G : Gh} {cs : List AV} {b o : Nat} (h : Fixed G b o cs) (n : Nat) : Fixed G b o (cs.take n) := by
  obtain ⟨vs, hl, hi, h1, hr⟩ := h
  refine ⟨vs.take n, by simp [hl], fun i v e => ?_, fun a ha => h1 a (List.mem_of_mem_take ha), hr.take n⟩
  rw [List.getElem?_take] at e
  split at e
  · exact hi i v e
  · cases e

theorem RepV.sl_inv {G : Gh} {t z : Nat} {xs : List AV} {x : Value} (h : RepV G (.sl t z xs) x) :
    ∃ b o cap n, x = .slice (some ⟨b, o, none⟩) xs.length cap ∧ 0 < z ∧ (∀ x ∈ xs, x.nt = true ∧ x.cells.length = z) ∧ Fixed G b o (xs.flatMap AV.cells) ∧ xs.length ≤ cap ∧ G.bsz b = some n ∧ o + cap * z ≤ n ∧
      (t = 1 → cap = xs.length) ∧ (2 ≤ t → G.loc t = some (b, o + xs.length * z)) := by
  cases h with
  | sl tag sz xs b o cap n vs hz hs h1 hl hi hr hc hb hn ht1 ht2 =>
    refine ⟨b, o, cap, n, rfl, hz, hs, ⟨vs, hl, hi, ?_, ⟨hl.symm, hr⟩⟩, hc, hb, hn, ht1, ht2⟩
    intro a ha
    obtain ⟨x, hx, ha⟩ := List.mem_flatMap.1 ha
    exact h1 x hx a ha
theorem RepV.sl_mk {G : Gh} {t z : Nat} {xs : List AV} {b o cap n : Nat} (hz : 0 < z) (hs : ∀ x ∈ xs, x.nt = true ∧ x.cells.length = z) (hf : Fixed G b o (xs.flatMap AV.cells)) (hc : xs.length ≤ cap)
    (hb : G.bsz b = some n) (hn : o + cap * z ≤ n) (h1 : t = 1 → cap = xs.length) (h2 : 2 ≤ t → G.loc t = some (b, o + xs.length * z)) {k : Nat} (hk : k = xs.length) :
    RepV G (.sl t z xs) (.slice (some ⟨b, o, none⟩) k cap) := by
  subst hk
  obtain ⟨vs, hl, hi, ho, hr⟩ := hf
  exact .sl t z xs b o cap n vs hz hs (fun x hx a ha => ho a (List.mem_flatMap.2 ⟨x, hx, ha⟩)) hl hi hr.2 hc hb hn h1 h2

theorem flat_length {z : Nat} : ∀ {xs : List AV}, (∀ x ∈ xs, x.nt = true ∧ x.cells.length = z) → (xs.flatMap AV.cells).length = xs.length * z
  | [], _ => by simp
  | x :: r, h => by
    simp only [List.flatMap_cons, List.length_append, List.length_cons]
    rw [(h x (by simp)).2, flat_length (fun y hy => h y (List.mem_cons_of_mem _ hy)), Nat.add_mul]; omega
theorem flat_drop {z : Nat} : ∀ {xs : List AV} (_ : ∀ x ∈ xs, x.nt = true ∧ x.cells.length = z) (n : Nat), (xs.drop n).flatMap AV.cells = (xs.flatMap AV.cells).drop (n * z)
  | [], _, n => by simp
  | x :: r, h, 0 => by simp
  | x :: r, h, n + 1 => by
    rw [List.drop_succ_cons, flat_drop (fun y hy => h y (List.mem_cons_of_mem _ hy)) n, List.flatMap_cons, List.drop_append, (h x (by simp)).2]
    rw [show (n + 1) * z - z = n * z by rw [Nat.add_mul]; omega, List.drop_eq_nil_of_le (as := x.cells) (by rw [(h x (by simp)).2, Nat.add_mul]; omega)]; rfl
theorem flat_take {z : Nat} : ∀ {xs : List AV} (_ : ∀ x ∈ xs, x.nt = true ∧ x.cells.length = z) (n : Nat), (xs.take n).flatMap AV.cells = (xs.flatMap AV.cells).take (n * z)
  | [], _, n => by simp
  | x :: r, h, 0 => by simp
  | x :: r, h, n + 1 => by
    rw [List.take_succ_cons, List.flatMap_cons, flat_take (fun y hy => h y (List.mem_cons_of_mem _ hy)) n, List.flatMap_cons, List.take_append, (h x (by simp)).2]
    rw [show (n + 1) * z - z = n * z by rw [Nat.add_mul]; omega, List.take_of_length_le (l := x.cells) (by rw [(h x (by simp)).2, Nat.add_mul]; omega)]
theorem flat_get {z : Nat} {xs : List AV} (h : ∀ x ∈ xs, x.nt = true ∧ x.cells.length = z) {n : Nat} {v : AV} (hn : xs[n]? = some v) : v.cells = ((xs.flatMap AV.cells).drop (n * z)).take z := by
  obtain ⟨hlt, rfl⟩ := List.getElem?_eq_some_iff.1 hn
  rw [← flat_drop h, List.drop_eq_getElem_cons hlt, List.flatMap_cons, List.take_append, (h _ (List.getElem_mem hlt)).2, Nat.sub_self, List.take_zero, List.append_nil, List.take_of_length_le]
  rw [(h _ (List.getElem_mem hlt)).2]; exact Nat.le_refl _

section
variable {P : Program} {ng fl : Nat} {G : Gh} {own : Own} {fr : List AV} {a : Act} {w : World} {s s' : St} {o : Oper} {io : IOp} {v : AV}

theorem ok_convI {S D : TypeId} {x : Operand} {k k' : IntKind} {y : Opd} (hR : Rel P ng s w G own) (hf : RepF G fr a) (ho : o.op = .convert S D x) (hx : lowX ng x = some y) (hs : P.underlying S = some (.int k'))
    (hd : P.underlying D = some (.int k)) (he : evOp fr s (.conv k y) = some (v, s')) : OpOk P ng G a w o v s' := by
  have r := lowX_rep hf hx hR.glob
  simp only [evOp] at he
  split at he
  · rename_i e
    cases he
    rw [e] at r
    have hv := r.int_inv
    exact .pure hR (by simp [execOp, ho, hv, convert, run_underlying hs, run_underlying hd, Conv.intToInt]; rfl) (by rw [wrapF_eq]; exact .int _ _)
  · cases he

theorem ok_slstr {t : TypeId} {x : Operand} {lo hi : Option Operand} {y : Opd} {l h : Option Opd} (hR : Rel P ng s w G own) (hf : RepF G fr a) (ho : o.op = .slice t x lo hi none) (hx : lowX ng x = some y)
    (hl : lowXo ng lo = some l) (hh : lowXo ng hi = some h) (ht : P.underlying t = some .string) (he : evOp fr s (.slstr y l h) = some (v, s')) : OpOk P ng G a w o v s' := by
  have r := lowX_rep hf hx hR.glob
  simp only [evOp] at he
  split at he
  · rename_i b e
    split at he
    · rename_i l' h' hb
      cases he
      rw [e] at r
      obtain ⟨z, hv, hz⟩ := r.str_inv
      have hsz : z.size = b.length := by rw [← hz, List.length_map, Array.length_toList]; rfl
      obtain ⟨hr, h1, h2⟩ := bounds_run (P := P) (w := w) hf hR.glob hl hh hb false b.length (Nat.le_refl _)
      rw [← hsz] at hr
      refine .pure hR (u := .string (z.extract l' h')) ?_ (.str _ _ ?_)
      · simp [execOp, ho, hv, Instr.sliceAt, Instr.slice, run_underlying ht, hr]
      · rw [← hz, ByteArray.data_extract, Array.toList_extract, List.extract_eq_take_drop, List.drop_take, List.map_take, List.map_drop]
    · cases he
  · cases he

theorem ok_fld {t : TypeId} {x : Operand} {i : Nat} {fs : Array Field} {f : Field} {n : Nat} {y : Opd} (hR : Rel P ng s w G own) (hf : RepF G fr a) (ho : o.op = .fieldAddr t x i) (hx : lowX ng x = some y)
    (ht : P.underlying t = some (.struct fs)) (hi : fs[i]? = some f) (hn : szOf P f.type = some (n + 1)) (he : evOp fr s (.fld f.offset y) = some (v, s')) : OpOk P ng G a w o v s' := by
  have r := lowX_rep hf hx hR.glob
  have run : ∀ b k, (Instr.fieldAt t (.pointer (some ⟨b, k, none⟩)) i).run P w = .ok (.pointer (some ⟨b, k + f.offset, none⟩)) w := by
    intro b k
    simp [Instr.fieldAt, run_underlying ht, hi, Instr.sureAddr, fieldPlace, run_sizeOf hn, add_none]
  simp only [evOp] at he
  split at he
  · rename_i e
    cases he
    rw [e] at r
    obtain ⟨b, k, hv, hl⟩ := r.ptr_inv
    refine .pure hR (by simp [execOp, ho, hv, run]; rfl) ?_
    rw [Nat.add_assoc]; exact .ptr _ _ _ _ hl
  · rename_i e
    cases he
    rw [e] at r
    obtain ⟨b, k, hv, hl⟩ := r.iptr_inv
    exact .pure hR (by simp [execOp, ho, hv, run] ) (hl.drop _).iptr
  · cases he

theorem ok_part {t : TypeId} {x : Operand} {i : Nat} {fs : Array Field} {f : Field} {k : Option Nat} {y : Opd} (hR : Rel P ng s w G own) (hf : RepF G fr a) (ho : o.op = .field t x i) (hx : lowX ng x = some y)
    (ht : P.underlying t = some (.struct fs)) (hi : fs[i]? = some f) (hk : kOf P f.type = some k) (he : evOp fr s (.part f.offset k y) = some (v, s')) : OpOk P ng G a w o v s' := by
  have r := lowX_rep hf hx hR.glob
  simp only [evOp] at he
  split at he
  · rename_i cs e
    split at he
    · rename_i vv hv
      cases he
      rw [e] at r
      obtain ⟨vs, hv', hr, h1⟩ := r.agg_inv
      obtain ⟨u, hu, hu2⟩ := part_run (w := w) hk hr h1 hv
      exact .pure hR (u := u) (by simp [execOp, ho, hv', Instr.field, run_underlying ht, hi, asAgg, hu]) hu2
    · cases he
  · cases he

theorem ok_ixa {t e : TypeId} {n z : Nat} {x i : Operand} {y j : Opd} (hR : Rel P ng s w G own) (hf : RepF G fr a) (ho : o.op = .indexAddr t x i) (hx : lowX ng x = some y) (hj : lowX ng i = some j)
    (ht : P.underlying t = some (.array n e)) (hz : szOf P e = some z) (he : evOp fr s (.ixa n z y j) = some (v, s')) : OpOk P ng G a w o v s' := by
  have r := lowX_rep hf hx hR.glob
  have r2 := lowX_rep hf hj hR.glob
  simp only [evOp] at he
  split at he
  · rename_i k q e2
    split at he
    · rename_i hq
      rw [e2] at r2
      have hv2 := r2.int_inv
      have hq2 : q < (n : Int) := hq.2
      have run : ∀ b m, (Instr.indexAt t (.pointer (some ⟨b, m, none⟩)) (.int k q)).run P w = .ok (.pointer (some ⟨b, m + q.toNat * z, none⟩)) w := by
        intro b m
        simp [Instr.indexAt, asIntOf, run_underlying ht, Instr.sureAddr, hq.1, hq2, run_sizeOf hz, add_none]
      split at he
      · rename_i e1
        cases he
        rw [e1] at r
        obtain ⟨b, m, hv, hl⟩ := r.ptr_inv
        refine .pure hR (by simp [execOp, ho, hv, hv2, run]; rfl) ?_
        rw [Nat.add_assoc]; exact .ptr _ _ _ _ hl
      · rename_i e1
        cases he
        rw [e1] at r
        obtain ⟨b, m, hv, hl⟩ := r.iptr_inv
        exact .pure hR (by simp [execOp, ho, hv, hv2, run] ) (hl.drop _).iptr
      · cases he
    · cases he
  · cases he

theorem ok_ixs {t e : TypeId} {z : Nat} {x i : Operand} {y j : Opd} (hR : Rel P ng s w G own) (hf : RepF G fr a) (ho : o.op = .indexAddr t x i) (hx : lowX ng x = some y) (hj : lowX ng i = some j)
    (ht : P.underlying t = some (.slice e)) (hz : szOf P e = some z) (he : evOp fr s (.ixs z y j) = some (v, s')) : OpOk P ng G a w o v s' := by
  have r := lowX_rep hf hx hR.glob
  have r2 := lowX_rep hf hj hR.glob
  simp only [evOp] at he
  split at he
  · rename_i k q e2
    split at he
    · rename_i hq
      rw [e2] at r2
      have hv2 := r2.int_inv
      have run : ∀ (b m len cap : Nat), q < (len : Int) → (Instr.indexAt t (.slice (some ⟨b, m, none⟩) len cap) (.int k q)).run P w = .ok (.pointer (some ⟨b, m + q.toNat * z, none⟩)) w := by
        intro b m len cap hlt
        simp [Instr.indexAt, asIntOf, run_underlying ht, hq, hlt, run_sizeOf hz, add_none]
      split at he
      · rename_i tg z' xs e1
        split at he
        · rename_i ez
          subst ez
          split at he
          · rename_i v0 hv0
            cases he
            rw [e1] at r
            obtain ⟨b, m, cap, nn, hv, hz0, hs, hfx, _⟩ := r.sl_inv
            have hlt := (List.getElem?_eq_some_iff.1 hv0).1
            refine .pure hR (by rw [execOp, ho]; simp only [hv, hv2]; rw [Sem.run_bind, run b m xs.length cap (by omega)]; rfl) ?_
            rw [flat_get hs hv0]
            exact ((hfx.drop _).take _).iptr
          · cases he
        · cases he
      · rename_i id off len z' e1
        split at he
        · rename_i ez
          obtain ⟨rfl, hlt⟩ := ez
          cases he
          rw [e1] at r
          generalize hv : a.eval x = xv at r
          cases r with
          | hsl _ _ _ _ b m cap nn hz0 hl hc hb hn =>
            refine .pure hR (by rw [execOp, ho]; simp only [hv, hv2]; rw [Sem.run_bind, run b _ len cap hlt]; rfl) ?_
            rw [Nat.add_assoc, ← Nat.add_mul]; exact .ptr _ _ _ _ hl
        · cases he
      · cases he
    · cases he
  · cases he

theorem ok_ixstr {t : TypeId} {x i : Operand} {y j : Opd} (hR : Rel P ng s w G own) (hf : RepF G fr a) (ho : o.op = .index t x i) (hx : lowX ng x = some y) (hj : lowX ng i = some j)
    (ht : P.underlying t = some .string) (he : evOp fr s (.ixstr y j) = some (v, s')) : OpOk P ng G a w o v s' := by
  have r := lowX_rep hf hx hR.glob
  have r2 := lowX_rep hf hj hR.glob
  simp only [evOp] at he
  split at he
  · rename_i b k q e1 e2
    split at he
    · rename_i hq
      split at he
      · rename_i c hc
        cases he
        rw [e1] at r; rw [e2] at r2
        have hv2 := r2.int_inv
        obtain ⟨z, hv, hz⟩ := r.str_inv
        rw [← hz, List.getElem?_map, Option.map_eq_some_iff] at hc
        obtain ⟨c8, hc8, rfl⟩ := hc
        have hg : z[q.toNat]? = some c8 := by
          obtain ⟨h1, h2⟩ := List.getElem?_eq_some_iff.1 hc8
          have h3 : q.toNat < z.size := by simpa using h1
          rw [getElem?_pos z q.toNat h3]
          exact congrArg some h2
        exact .pure hR (by simp [execOp, ho, hv, hv2, Instr.index, asIntOf, run_underlying ht, hq, hg] ) (.int _ _)
      · cases he
    · cases he
  · cases he

theorem ok_ixarr {t e : TypeId} {n z : Nat} {k : Option Nat} {x i : Operand} {y j : Opd} (hR : Rel P ng s w G own) (hf : RepF G fr a) (ho : o.op = .index t x i) (hx : lowX ng x = some y) (hj : lowX ng i = some j)
    (ht : P.underlying t = some (.array n e)) (hz : szOf P e = some z) (hk : kOf P e = some k) (he : evOp fr s (.ixarr n z k y j) = some (v, s')) : OpOk P ng G a w o v s' := by
  have r := lowX_rep hf hx hR.glob
  have r2 := lowX_rep hf hj hR.glob
  simp only [evOp] at he
  split at he
  · rename_i cs kk q e1 e2
    split at he
    · rename_i hq
      split at he
      · rename_i c hc
        cases he
        rw [e1] at r; rw [e2] at r2
        have hv2 := r2.int_inv
        have hq2 : q < (n : Int) := hq.2
        obtain ⟨vs, hv', hr, h1⟩ := r.agg_inv
        obtain ⟨u, hu, hu2⟩ := part_run (w := w) hk hr h1 hc
        exact .pure hR (u := u) (by simp [execOp, ho, hv', hv2, Instr.index, asIntOf, run_underlying ht, hq.1, hq2, run_sizeOf hz, hu]) hu2
      · cases he
    · cases he
  · cases he

theorem ok_ext {x : Operand} {i : Nat} {y : Opd} (hR : Rel P ng s w G own) (hf : RepF G fr a) (ho : o.op = .extract x i) (hx : lowX ng x = some y)
    (he : evOp fr s (.ext y i) = some (v, s')) : OpOk P ng G a w o v s' := by
  have r := lowX_rep hf hx hR.glob
  simp only [evOp] at he
  split at he
  · rename_i vs e
    split at he
    · rename_i vv hv
      cases he
      rw [e] at r
      obtain ⟨us, hu, hr⟩ := r.tup_inv
      obtain ⟨u, h1, h2⟩ := hr.get hv
      have h1' : us[i]? = some u := by simpa using h1
      exact .pure hR (u := u) (by simp [execOp, ho, hu, Instr.extract, h1']) h2
    · cases he
  · cases he

theorem ok_mkfn {f : FuncId} {xs ys : Array Operand} {A B : List Opd} (hR : Rel P ng s w G own) (hf : RepF G fr a) (ho : o.op = .makeFunc (.func f) xs ys) (hx : lowXs ng xs.toList = some A) (hy : lowXs ng ys.toList = some B)
    (he : evOp fr s (.mkfn f A B) = some (v, s')) : OpOk P ng G a w o v s' := by
  simp only [evOp, Option.some.injEq, Prod.mk.injEq] at he
  obtain ⟨rfl, rfl⟩ := he
  have r1 := lowXs_rep hf hR.glob hx
  have r2 := lowXs_rep hf hR.glob hy
  refine .pure hR (u := .func (.func f) (xs.map a.eval) (ys.map a.eval)) (by simp [execOp, ho, Instr.makeFunc]) (.fn f _ _ _ _ ?_ ?_ ?_ ?_)
  · simpa using r1.1
  · simpa using r2.1
  · intro i p q e1 e2; exact r1.2 i p q e1 (by simpa using e2)
  · intro i p q e1 e2; exact r2.2 i p q e1 (by simpa using e2)

end
end Go.Am

namespace Go.Am

theorem RepV.hsl_inv {G : Gh} {id off len z : Nat} {x : Value} (h : RepV G (.hsl id off len z) x) :
    ∃ b o cap n, x = .slice (some ⟨b, o + off * z, none⟩) len cap ∧ 0 < z ∧ G.loc id = some (b, o) ∧ len ≤ cap ∧ G.bsz b = some n ∧ o + off * z + cap * z ≤ n := by
  cases h; exact ⟨_, _, _, _, rfl, by assumption, by assumption, by assumption, by assumption, by assumption⟩

section
variable {P : Program} {ng fl : Nat} {G : Gh} {own : Own} {fr : List AV} {a : Act} {w : World} {s s' : St} {o : Oper} {io : IOp} {v : AV}

theorem slice_run {t e : TypeId} {z : Nat} (ht : P.underlying t = some (.slice e)) (hz : szOf P e = some z) {x : Option Addr} {len cap l h : Nat} {lo hi : Option Value}
    (hb : (Instr.sliceBounds true len cap lo hi none).run P w = .ok (l, h, cap) w) :
    (Instr.sliceAt t (.slice x len cap) lo hi none).run P w = .ok (.slice (if cap = l then x else x.map (·.add (l * z))) (h - l) (cap - l)) w := by
  simp [Instr.sliceAt, Instr.slice, run_underlying ht, hb, run_sizeOf hz]

theorem ok_slsl {t e : TypeId} {z : Nat} {x : Operand} {lo hi : Option Operand} {y : Opd} {l h : Option Opd} (hR : Rel P ng s w G own) (hf : RepF G fr a) (ho : o.op = .slice t x lo hi none) (hx : lowX ng x = some y)
    (hl : lowXo ng lo = some l) (hh : lowXo ng hi = some h) (ht : P.underlying t = some (.slice e)) (hz : szOf P e = some z) (he : evOp fr s (.slsl z y l h) = some (v, s')) : OpOk P ng G a w o v s' := by
  have r := lowX_rep hf hx hR.glob
  simp only [evOp] at he
  split at he
  · rename_i e1
    split at he
    · rename_i p hb
      obtain ⟨l', h'⟩ := p
      cases he
      rw [e1] at r
      have hv := r.nsl_inv
      obtain ⟨hr, h1, h2⟩ := bounds_run (P := P) (w := w) hf hR.glob hl hh hb true 0 (Nat.le_refl _)
      obtain rfl : h' = 0 := by omega
      obtain rfl : l' = 0 := by omega
      exact .pure hR (by simp only [execOp, ho, hv, Option.map_none]; rw [Sem.run_bind, slice_run ht hz hr]; rfl) .nsl
    · cases he
  · rename_i tg z' xs e1
    split at he
    · rename_i ez
      subst ez
      split at he
      · rename_i l' h' hb
        cases he
        rw [e1] at r
        obtain ⟨b, m, cap, n, hv, hz0, hs, hfx, hc, hbz, hn, _, _⟩ := r.sl_inv
        obtain ⟨hr, h1, h2⟩ := bounds_run (P := P) (w := w) hf hR.glob hl hh hb true cap hc
        refine .pure hR (by simp only [execOp, ho, hv, Option.map_none]; rw [Sem.run_bind, slice_run ht hz hr]; rfl) ?_
        have hs' : ∀ x ∈ (xs.take h').drop l', x.nt = true ∧ x.cells.length = z' := fun x hx => hs x (List.mem_of_mem_take (List.mem_of_mem_drop hx))
        have hs2 : ∀ x ∈ xs.take h', x.nt = true ∧ x.cells.length = z' := fun x hx => hs x (List.mem_of_mem_take hx)
        have hfx' : Fixed G b (m + l' * z') (((xs.take h').drop l').flatMap AV.cells) := by
          rw [flat_drop hs2, flat_take hs]; exact (hfx.take _).drop _
        have hlen : h' - l' = ((xs.take h').drop l').length := by simp; omega
        by_cases hcl : cap = l'
        · rw [if_pos hcl]
          have he0 : (xs.take h').drop l' = [] := List.drop_eq_nil_of_le (by simp; omega)
          rw [he0] at hlen ⊢
          simp only [List.length_nil] at hlen
          exact RepV.sl_mk (n := n) hz0 (fun x hx => by simp at hx) ⟨[], rfl, fun i v e => by simp at e, fun a ha => by simp at ha, .nil G⟩ (by simp) hbz (by rw [hcl, Nat.sub_self]; omega) (by omega) (by omega) (by simp; omega)
        · rw [if_neg hcl, Option.map_some, add_none]
          refine RepV.sl_mk (n := n) hz0 hs' hfx' (by omega) hbz ?_ (by omega) (by omega) hlen
          have : m + l' * z' + (cap - l') * z' = m + cap * z' := by rw [Nat.add_assoc, ← Nat.add_mul, show l' + (cap - l') = cap by omega]
          omega
      · cases he
    · cases he
  · rename_i id off len z' e1
    split at he
    · rename_i ez
      subst ez
      split at he
      · rename_i l' h' hb
        split at he
        · rename_i hlh
          cases he
          rw [e1] at r
          obtain ⟨b, m, cap, n, hv, hz0, hloc, hc, hbz, hn⟩ := r.hsl_inv
          obtain ⟨hr, h1, h2⟩ := bounds_run (P := P) (w := w) hf hR.glob hl hh hb true cap hc
          refine .pure hR (by simp only [execOp, ho, hv, Option.map_none]; rw [Sem.run_bind, slice_run ht hz hr]; rfl) ?_
          have e : (if cap = l' then some (⟨b, m + off * z', none⟩ : Addr) else Option.map (fun x : Addr => x.add (l' * z')) (some ⟨b, m + off * z', none⟩)) = some ⟨b, m + (off + l') * z', none⟩ := by
            rw [Nat.add_mul, ← Nat.add_assoc]
            split
            · have : l' = 0 := by omega
              subst this; simp
            · rw [Option.map_some, add_none]
          rw [e]
          refine .hsl id (off + l') (h' - l') z' b m (cap - l') n hz0 hloc (by omega) hbz ?_
          have : m + (off + l') * z' + (cap - l') * z' = m + off * z' + cap * z' := by
            rw [Nat.add_mul, Nat.add_assoc, Nat.add_assoc, Nat.add_assoc, ← Nat.add_mul, show l' + (cap - l') = cap by omega]
          omega
        · rename_i hlh
          cases he
          rw [e1] at r
          obtain ⟨b, m, cap, n, hv, hz0, hloc, hc, hbz, hn⟩ := r.hsl_inv
          obtain ⟨hr, h1, h2⟩ := bounds_run (P := P) (w := w) hf hR.glob hl hh hb true cap hc
          refine .pure hR (by simp only [execOp, ho, hv, Option.map_none]; rw [Sem.run_bind, slice_run ht hz hr]; rfl) ?_
          have hlen : h' - l' = 0 := by omega
          by_cases hcl : cap = l'
          · rw [if_pos hcl]
            exact RepV.sl_mk (n := n) hz0 (fun x hx => by simp at hx) ⟨[], rfl, fun i v e => by simp at e, fun a ha => by simp at ha, .nil G⟩ (by simp) hbz (by rw [hcl, Nat.sub_self]; omega) (by omega) (by omega) (by simp; omega)
          · rw [if_neg hcl, Option.map_some, add_none]
            refine RepV.sl_mk (n := n) hz0 (fun x hx => by simp at hx) ⟨[], rfl, fun i v e => by simp at e, fun a ha => by simp at ha, .nil G⟩ (by simp) hbz ?_ (by omega) (by omega) (by simp; omega)
            have : m + off * z' + l' * z' + (cap - l') * z' = m + off * z' + cap * z' := by rw [Nat.add_assoc, ← Nat.add_mul, show l' + (cap - l') = cap by omega]
            omega
      · cases he
    · cases he
  · cases he

theorem cells_obj {id off : Nat} {cs : List AV} (hR : Rel P ng s w G own) {p : Nat × Nat} (hp : G.loc id = some p) (h : cellsAt s.objs (.ptr id off) = some cs) :
    ∃ b o c ty f, G.loc id = some (b, o) ∧ w.heap[b]? = some (.cells c ty f) ∧ o + (off + cs.length) ≤ max c.size (o + off) ∧ RepL G cs ((c.toList.drop (o + off)).take cs.length) ∧ (∀ a ∈ cs, a.one = true) := by
  simp only [cellsAt] at h
  split at h
  · rename_i ty cs0 hl
    cases h
    obtain ⟨b, c, f, h1, h2, h3, h4, h5, h6⟩ := hR.objL hl hp
    have hlen := h3.1
    simp only [Array.length_toList] at hlen
    refine ⟨b, 0, c, ty, f, h1, h2, by simp only [List.length_drop]; omega, ?_, fun a ha => h4 a (List.mem_of_mem_drop ha)⟩
    rw [Nat.zero_add, List.take_of_length_le (by simp; omega)]
    exact h3.drop off
  · rename_i cs0 hl
    cases h
    obtain ⟨b, c, ty, f, h1, h2, h3, h4, h5, h6⟩ := hR.objL hl hp
    have hlen := h3.1
    simp only [Array.length_toList] at hlen
    refine ⟨b, 0, c, ty, f, h1, h2, by simp only [List.length_drop]; omega, ?_, fun a ha => h4 a (List.mem_of_mem_drop ha)⟩
    rw [Nat.zero_add, List.take_of_length_le (by simp; omega)]
    exact h3.drop off
  · rename_i fl0 sz cs0 hl
    cases h
    obtain ⟨b, o, c, ty, f, h1, h2, h3, h4, h5, _, _⟩ := hR.objL hl hp
    refine ⟨b, o, c, ty, f, h1, h2, by simp only [List.length_drop]; omega, ?_, fun a ha => h5 a (List.mem_of_mem_drop ha)⟩
    have := h4.drop off
    rwa [List.drop_take, List.drop_drop, ← List.length_drop] at this
  · cases h

theorem ok_slarr {t e : TypeId} {n z : Nat} {x : Operand} {lo hi : Option Operand} {y : Opd} {l h : Option Opd} (hR : Rel P ng s w G own) (hf : RepF G fr a) (ho : o.op = .slice t x lo hi none) (hx : lowX ng x = some y)
    (hl : lowXo ng lo = some l) (hh : lowXo ng hi = some h) (ht : P.underlying t = some (.array n e)) (hz : szOf P e = some z)
    (he : evOp fr s (.slarr n z y l h) = some (v, s')) : OpOk P ng G a w o v s' := by
  have r := lowX_rep hf hx hR.glob
  simp only [evOp] at he
  split at he
  · rename_i id off e1
    split at he
    · rename_i l' h' hb
      split at he
      · rename_i hc
        obtain ⟨hd, hz0, hlh⟩ := hc
        split at he
        · rename_i ty cs hcs
          split at he
          · rename_i hn
            cases he
            rw [e1] at r
            obtain ⟨b, m, hv, hloc⟩ := r.ptr_inv
            obtain ⟨b', c, f, k1, k2, k3, _, _, hbs⟩ := hR.objL hcs hloc
            rw [hloc] at k1; cases k1
            have hlen := k3.1
            simp only [Array.length_toList] at hlen
            obtain ⟨hr, h1, h2⟩ := bounds_run (P := P) (w := w) hf hR.glob hl hh hb false n (Nat.le_refl _)
            have hoff : off / z * z = off := by have := Nat.div_add_mod off z; rw [hd, Nat.add_zero, Nat.mul_comm] at this; exact this
            have e : (if n = l' then (⟨b, 0 + off, none⟩ : Addr) else (⟨b, 0 + off, none⟩ : Addr).add (l' * z)) = ⟨b, 0 + (off / z + l') * z, none⟩ := by
              rw [Nat.add_mul, hoff, ← Nat.add_assoc]
              split
              · have : l' = 0 := by omega
                subst this; simp
              · rw [add_none]
            refine .pure hR (u := .slice (some ⟨b, 0 + (off / z + l') * z, none⟩) (h' - l') (n - l')) ?_ (.hsl id (off / z + l') (h' - l') z b 0 (n - l') c.size hz0 hloc (by omega) hbs ?_)
            · simp only [execOp, ho, hv, Option.map_none, Sem.run_bind, Instr.sliceAt, run_underlying ht, Instr.sureAddr, Sem.run_pure, Result.andThen_ok, hr, run_sizeOf hz]
              rw [e]
            · have e2 : 0 + (off / z + l') * z + (n - l') * z = off + n * z := by
                rw [Nat.add_mul, hoff, Nat.add_assoc, Nat.add_assoc, ← Nat.add_mul, show l' + (n - l') = n by omega, Nat.zero_add]
              omega
          · cases he
        · cases he
      · cases he
    · cases he
  · cases he

theorem call_builtin {cal : Call} {b : Builtin} (ho : o.op = .call cal) (hc : cal.callee = .builtin b) :
    execOp a.eval o = builtin b cal.argTypes o.type (cal.args.map fun | .const _ => true | _ => false) (cal.args.map a.eval) := by
  obtain ⟨callee, args, argTypes⟩ := cal
  simp only at hc; subst hc
  simp [execOp, ho, resolve, invoke]
  rfl

theorem arr_of {α : Type} {x : Array α} {l : List α} (h : x.toList = l) : x = l.toArray := by apply Array.ext'; simpa using h

theorem ok_len {st : Bool} {x : Operand} {y : Opd} {cal : Call} {t : TypeId} (hR : Rel P ng s w G own) (hf : RepF G fr a) (ho : o.op = .call cal) (hc : cal.callee = .builtin .len) (hts : cal.argTypes.toList = [t]) (hxs : cal.args.toList = [x])
    (hx : lowX ng x = some y) (ht : (st = true → P.underlying t = some .string) ∧ (st = false → ∃ e, P.underlying t = some (.slice e))) (he : evOp fr s (.len st y) = some (v, s')) : OpOk P ng G a w o v s' := by
  have r := lowX_rep hf hx hR.glob
  have hex := call_builtin (a := a) ho hc
  rw [arr_of hts, arr_of hxs] at hex
  have key : ∀ n : Nat, (Builtin.len_ #[t] o.type #[a.eval x]).run P w = .ok (goInt n) w → OpOk P ng G a w o (.int .i64 (Int.ofNat n)) s := by
    intro n h
    exact .pure hR (u := goInt n) (by rw [hex]; simp [builtin, h]) (.int _ _)
  simp only [evOp] at he
  split at he <;> rename_i e <;> first | (cases he; done) | skip
  all_goals
    cases he
    rw [e] at r
  · obtain ⟨z, hv, hz⟩ := r.str_inv
    rename_i b
    have hsz : z.size = b.length := by rw [← hz, List.length_map, Array.length_toList]; rfl
    exact key _ (by simp [Builtin.len_, run_underlying (ht.1 rfl), hv, hsz])
  · have hv := r.nsl_inv
    obtain ⟨e, hu⟩ := ht.2 rfl
    exact key 0 (by simp [Builtin.len_, run_underlying hu, hv])
  · obtain ⟨b, m, cap, n, hv, _⟩ := r.sl_inv
    obtain ⟨e, hu⟩ := ht.2 rfl
    exact key _ (by simp [Builtin.len_, run_underlying hu, hv])
  · obtain ⟨b, m, cap, n, hv, _⟩ := r.hsl_inv
    obtain ⟨e, hu⟩ := ht.2 rfl
    exact key _ (by simp [Builtin.len_, run_underlying hu, hv])

theorem ok_cap {x : Operand} {y : Opd} {cal : Call} {t e : TypeId} (hR : Rel P ng s w G own) (hf : RepF G fr a) (ho : o.op = .call cal) (hc : cal.callee = .builtin .cap) (hts : cal.argTypes.toList = [t]) (hxs : cal.args.toList = [x])
    (hx : lowX ng x = some y) (ht : P.underlying t = some (.slice e)) (he : evOp fr s (.cap y) = some (v, s')) : OpOk P ng G a w o v s' := by
  have r := lowX_rep hf hx hR.glob
  have hex := call_builtin (a := a) ho hc
  rw [arr_of hts, arr_of hxs] at hex
  simp only [evOp] at he
  split at he
  · rename_i e1
    cases he
    rw [e1] at r
    have hv := r.nsl_inv
    exact .pure hR (u := goInt 0) (by rw [hex]; simp [builtin, Builtin.cap_, run_underlying ht, hv]) (.int _ _)
  · cases he

theorem ok_lenA {n : Nat} {x : Operand} {cal : Call} {t e : TypeId} (hR : Rel P ng s w G own) (ho : o.op = .call cal) (hc : cal.callee = .builtin .len) (hts : cal.argTypes.toList = [t]) (hxs : cal.args.toList = [x])
    (ht : P.underlying t = some (.array n e)) (he : evOp fr s (.mov (.c (.int .i64 (Int.ofNat n)))) = some (v, s')) : OpOk P ng G a w o v s' := by
  have hex := call_builtin (a := a) ho hc
  rw [arr_of hts, arr_of hxs] at hex
  simp only [evOp, Option.some.injEq, Prod.mk.injEq] at he
  obtain ⟨rfl, rfl⟩ := he
  exact .pure hR (u := goInt n) (by rw [hex]; simp [builtin, Builtin.len_, run_underlying ht]) (.int _ _)

theorem mx_run (mx : Bool) : ∀ {xs : List Operand} {ys : List Opd} {k : IntKind} {x : Int} {v : AV} (_ : RepF G fr a) (_ : Glob ng G) (_ : lowXs ng xs = some ys) (_ : evMx mx k x fr ys = some v),
    ∃ u, (List.foldlM (if mx then Builtin.max2 else Builtin.min2) (Value.int k x) (xs.map a.eval)).run P w = .ok u w ∧ RepV G v u
  | [], ys, k, x, v, hf, hg, hl, he => by
    simp [lowXs] at hl; subst hl
    simp [evMx] at he; subst he
    exact ⟨_, rfl, .int _ _⟩
  | z :: r, ys, k, x, v, hf, hg, hl, he => by
    simp only [lowXs] at hl
    cases h1 : lowX ng z with
    | none => simp [h1] at hl
    | some y =>
      cases h2 : lowXs ng r with
      | none => simp [h1, h2] at hl
      | some l =>
        simp [h1, h2] at hl; subst hl
        have rz := lowX_rep hf h1 hg
        simp only [evMx] at he
        split at he
        · rename_i k' b e
          rw [e] at rz
          have hv := rz.int_inv
          obtain ⟨u, hu, hr⟩ := mx_run mx hf hg h2 he
          refine ⟨u, ?_, hr⟩
          simp only [List.map_cons, List.foldlM_cons, hv]
          cases mx <;> simpa [Builtin.max2, Builtin.min2, mx2] using hu
        · cases he

theorem ok_mx {mx : Bool} {x : Operand} {xs : List Operand} {y : Opd} {ys : List Opd} {cal : Call} (hR : Rel P ng s w G own) (hf : RepF G fr a) (ho : o.op = .call cal)
    (hc : cal.callee = .builtin (if mx then .max else .min)) (hxs : cal.args.toList = x :: xs)
    (hx : lowX ng x = some y) (hys : lowXs ng xs = some ys) (he : evOp fr s (.mx mx y ys) = some (v, s')) : OpOk P ng G a w o v s' := by
  have r := lowX_rep hf hx hR.glob
  have hex := call_builtin (a := a) ho hc
  rw [arr_of hxs] at hex
  simp only [evOp] at he
  split at he
  · rename_i k n e1
    split at he
    · rename_i vv hv
      cases he
      rw [e1] at r
      have hv1 := r.int_inv
      obtain ⟨u, hu, hr⟩ := mx_run (P := P) (w := w) mx hf hR.glob hys hv
      refine .pure hR (u := u) ?_ hr
      rw [hex]
      cases mx <;> simp [builtin, Builtin.max_, Builtin.min_, hv1] at hu ⊢ <;> rw [hu] <;> rfl
    · cases he
  · cases he

end
end Go.Am

namespace Go.Am

section
variable {P : Program} {ng fl : Nat} {G : Gh} {own : Own} {fr : List AV} {a : Act} {w : World} {s s' : St} {o : Oper} {io : IOp} {v : AV}

theorem alloc_obj (hR : Rel P ng s w G own) (ty : TypeId) {cs : List AV} {c : Array Value} (hr : RepL G cs c.toList) (h1 : ∀ a ∈ cs, a.one = true) (w' : World) (hw : w'.heap = w.heap.push (.cells c ty)) (ho0 : w'.os = w.os ∧ w'.output = w.output := by exact ⟨rfl, rfl⟩) :
    ∃ H own', RepV H (.ptr s.next 0) (.pointer (some ⟨w.heap.size, 0, none⟩)) ∧ Rel P ng (s.add (.cells ty cs)) w' H own' ∧ G.le H := by
  have hle := hR.push_le (some 0) (fun _ => none) (some c.size)
  refine ⟨_, _, ?_, hR.push_obj (.cells c ty) 0 0 (fun _ => none) (some c.size) (.cells ty cs) (fun j v e => by cases e) (fun n e => ⟨c, ty, (0, 0), rfl, by cases e; rfl⟩)
    (fun c' t f e => by cases e; exact Nat.le_refl _) w' hw ?_ ho0, hle⟩
  · exact .ptr s.next 0 w.heap.size 0 (by simp [Gh.push])
  · intro e' he'
    subst he'
    refine ⟨w.heap.size, c, (0, 0), by simp [Gh.push], by rw [hw]; simp, hr.mono hle, h1, fun j => by simp [Own.push], by simp [Gh.push]⟩

theorem ok_alloc {e : TypeId} {z : AV} (hR : Rel P ng s w G own) (ho : o.op = .alloc e) (hz : zOf P e = some z) (he : evOp fr s (.alloc e z.cells) = some (v, s')) : OpOk P ng G a w o v s' := by
  simp only [evOp, Option.some.injEq, Prod.mk.injEq] at he
  obtain ⟨rfl, rfl⟩ := he
  obtain ⟨zv, hz1, hz2⟩ := run_zeroValue hz w
  obtain ⟨r, hnt⟩ := ofV_rep G hz2
  obtain ⟨hr, h1⟩ := r.nt_cells hnt
  obtain ⟨H, own', k1, k2, k3⟩ := alloc_obj hR e hr h1 { w with heap := w.heap.push (.cells zv.cells e) } rfl
  exact ⟨_, _, H, own', .inl (by simp [execOp, ho, Instr.alloc, hz1, newVar, newRow]), k1, k2, k3⟩

theorem ok_box {e : TypeId} {x : Operand} {y : Opd} (hR : Rel P ng s w G own) (hf : RepF G fr a) (ho : o.op = .box e x) (hx : lowX ng x = some y) (he : evOp fr s (.box e y) = some (v, s')) : OpOk P ng G a w o v s' := by
  have r := lowX_rep hf hx hR.glob
  simp only [evOp] at he
  split at he
  · rename_i hnt
    cases he
    obtain ⟨hr, h1⟩ := r.nt_cells hnt
    obtain ⟨H, own', k1, k2, k3⟩ := alloc_obj hR e hr h1 { w with heap := w.heap.push (.cells (a.eval x).cells e) } rfl
    exact ⟨_, _, H, own', .inl (by simp [execOp, ho, Instr.box, newVar, newRow]), k1, k2, k3⟩
  · cases he

theorem cellsAt_rep (hR : Rel P ng s w G own) {A : AV} {x : Value} (r : RepV G A x) {cs : List AV} (h : cellsAt s.objs A = some cs) :
    ∃ b o vs, x = .pointer (some ⟨b, o, none⟩) ∧ RepL G cs vs ∧ (∀ a ∈ cs, a.one = true) ∧ ∀ (j : Nat) u, vs[j]? = some u → w.cell? ⟨b, o + j, none⟩ = some u := by
  cases A <;> try (simp [cellsAt] at h; done)
  · rename_i id off
    obtain ⟨b, o, hv, hl⟩ := r.ptr_inv
    obtain ⟨b', o', c, ty, f, k1, k2, k3, k4, k5⟩ := cells_obj hR hl h
    rw [hl] at k1; cases k1
    refine ⟨b, o + off, _, hv, k4, k5, fun j u hu => ?_⟩
    rw [List.getElem?_take] at hu
    split at hu
    · simp only [World.cell?, k2]
      rw [List.getElem?_drop, Array.getElem?_toList] at hu
      exact hu
    · cases hu
  · rename_i cs0
    simp [cellsAt] at h; subst h
    obtain ⟨b, o, hv, vs, h1, h2, h3, h4⟩ := r.iptr_inv
    refine ⟨b, o, vs, hv, h4, h3, fun j u hu => ?_⟩
    obtain ⟨c, ty, f, e1, e2⟩ := hR.imm _ _ _ (h2 j u hu)
    simp only [World.cell?, e1]; exact e2

theorem loadVar_run {t : TypeId} {k : Option Nat} (hk : kOf P t = some k) {cs : List AV} {vs : List Value} {b m : Nat} (hr : RepL G cs vs) (h1 : ∀ a ∈ cs, a.one = true)
    (hc : ∀ (j : Nat) u, vs[j]? = some u → w.cell? ⟨b, m + j, none⟩ = some u) {v : AV} (h : take k cs = some v) : ∃ u, (loadVar t ⟨b, m, none⟩).run P w = .ok u w ∧ RepV G v u := by
  have q := take_rep hr h1 h
  cases k with
  | none =>
    obtain ⟨u, hu, hv⟩ := q
    have := hc 0 u hu
    rw [Nat.add_zero] at this
    exact ⟨u, by simp [loadVar, run_isAgg_false hk, this], hv⟩
  | some n =>
    obtain ⟨hn, hv⟩ := q
    obtain ⟨e1, e2⟩ := run_isAgg_true hk w
    have hl := run_loadCells_list (P := P) w ⟨b, m, none⟩ (vs.take n) (fun j u hu => by
      rw [add_none]
      rw [List.getElem?_take] at hu
      split at hu
      · exact hc j u hu
      · cases hu)
    rw [List.length_take, Nat.min_eq_left hn] at hl
    exact ⟨_, by simp only [loadVar, Sem.run_bind, e1, Result.andThen_ok, if_true, run_sizeOf e2, hl]; rfl, hv⟩

theorem ok_load {t : TypeId} {x : Operand} {y : Opd} {k : Option Nat} (hR : Rel P ng s w G own) (hf : RepF G fr a) (ho : o.op = .load t x) (hk : kOf P t = some k) (hx : lowX ng x = some y)
    (he : evOp fr s (.load k y) = some (v, s')) : OpOk P ng G a w o v s' := by
  have r := lowX_rep hf hx hR.glob
  simp only [evOp] at he
  split at he
  · rename_i cs hcs
    split at he
    · rename_i v0 hv0
      cases he
      obtain ⟨b, m, vs, hv, h1, h2, h3⟩ := cellsAt_rep hR r hcs
      obtain ⟨u, hu, hr⟩ := loadVar_run hk h1 h2 h3 hv0
      exact .pure hR (u := u) (by simp [execOp, ho, hv, Instr.loadAt, Instr.sureAddr, hu]) hr
    · cases he
  · cases he

/-! Stores -/

def splice {α : Type} (l : List α) (o : Nat) (vs : List α) : List α := l.take o ++ vs ++ l.drop (o + vs.length)

theorem splice_get {α : Type} {l vs : List α} {o : Nat} (h : o + vs.length ≤ l.length) (i : Nat) : (splice l o vs)[i]? = if o ≤ i ∧ i < o + vs.length then vs[i - o]? else l[i]? := by
  unfold splice
  rw [List.getElem?_append, List.getElem?_append]
  simp only [List.length_append, List.length_take, List.getElem?_take, List.getElem?_drop]
  by_cases h1 : i < o
  · rw [if_pos (by omega), if_pos (by omega), if_pos h1, if_neg (by omega)]
  · by_cases h2 : i < o + vs.length
    · rw [if_pos (by omega), if_neg (by omega), if_pos (by omega), Nat.min_eq_left (by omega)]
    · rw [if_neg (by omega), if_neg (by omega)]
      congr 1; omega
theorem splice_length {α : Type} {l vs : List α} {o : Nat} (h : o + vs.length ≤ l.length) : (splice l o vs).length = l.length := by
  unfold splice; simp; omega

theorem put_eq {cs vs cs' : List AV} {off : Nat} (h : put cs off vs = some cs') : off + vs.length ≤ cs.length ∧ cs' = splice cs off vs := by
  simp only [put] at h
  split at h
  · rename_i hl; cases h; exact ⟨hl, by simp [splice]⟩
  · cases h

theorem RepL.splice {cs vs : List AV} {xs us : List Value} (h : RepL G cs xs) (k : RepL G vs us) {o : Nat} (ho : o + vs.length ≤ cs.length) : RepL G (Am.splice cs o vs) (Am.splice xs o us) := by
  have ho' : o + us.length ≤ xs.length := by rw [← k.1, ← h.1]; exact ho
  refine ⟨by rw [splice_length ho, splice_length ho', h.1], fun i a v x y => ?_⟩
  rw [splice_get ho] at x
  rw [splice_get ho', ← k.1] at y
  split at x
  · rename_i hi; rw [if_pos hi] at y; exact k.2 _ a v x y
  · rename_i hi; rw [if_neg hi] at y; exact h.2 i a v x y

theorem splice_mem {α : Type} {l vs : List α} {o : Nat} {x : α} (h : x ∈ splice l o vs) : x ∈ l ∨ x ∈ vs := by
  unfold splice at h
  rcases List.mem_append.1 h with h | h
  · rcases List.mem_append.1 h with h | h
    · exact .inl (List.mem_of_mem_take h)
    · exact .inr h
  · exact .inl (List.mem_of_mem_drop h)

theorem store_run (hR : Rel P ng s w G own) {A : AV} {x : Value} (r : RepV G A x) {vs : List AV} {us : List Value} (k : RepL G vs us) (h1 : ∀ a ∈ vs, a.one = true) (h : storeAt s A vs = some s') :
    ∃ b m w', x = .pointer (some ⟨b, m, none⟩) ∧ (storeCells ⟨b, m, none⟩ us).run P w = .ok () w' ∧ Rel P ng s' w' G own := by
  cases A <;> try (simp [storeAt] at h; done)
  rename_i id off
  obtain ⟨b, m, hv, hl⟩ := r.ptr_inv
  have hus := k.one_cell h1
  simp only [storeAt] at h
  split at h
  · rename_i ty cs hlk
    split at h
    · rename_i cs' hp
      cases h
      obtain ⟨hlen, rfl⟩ := put_eq hp
      obtain ⟨b', c, f, k1, k2, k3, k4, k5, k6⟩ := hR.objL hlk hl
      rw [hl] at k1; cases k1
      have hc := k3.1
      simp only [Array.length_toList] at hc
      have hrun := run_storeCells_atF P b (0 + off) ty f us 0 c w k2 (by have := hR.frz b (0 + off + 0) id c ty f (k5 _) k2; omega) (by rw [← k.1]; omega) hus
      rw [Nat.add_zero] at hrun
      refine ⟨b, 0 + off, _, hv, hrun, ?_⟩
      have hsp : c.toList.take (0 + off) ++ us ++ c.toList.drop (0 + off + us.length) = Am.splice c.toList off us := by rw [Nat.zero_add]; rfl
      rw [hsp]
      have hlen' : off + us.length ≤ c.toList.length := by rw [← k.1, ← k3.1]; exact hlen
      have hsz : (Am.splice c.toList off us).toArray.size = c.size := by simp [splice_length hlen']
      refine hR.write hlk (Turn.of_setRow k2 hsz (fun j hj => absurd (k5 j) hj)) ?_
      refine ⟨b, _, f, hl, setRow_heap w b c _ ty f k2, by simpa using k3.splice k hlen, fun a ha => ?_, k5, by rw [hsz]; exact k6⟩
      rcases splice_mem ha with ha | ha
      · exact k4 a ha
      · exact h1 a ha
    · cases h
  · rename_i flo sz cs hlk
    split at h
    · rename_i hflo
      split at h
      · rename_i cs' hp
        cases h
        obtain ⟨hlen, rfl⟩ := put_eq hp
        obtain ⟨b', m', c, ty, f, k1, k2, k3, k4, k5, k6, k7⟩ := hR.objL hlk hl
        rw [hl] at k1; cases k1
        have hrun := run_storeCells_atF P b (m + off) ty f us 0 c w k2 (by have := hR.frz b (m + off) id c ty f (k6 _ (by omega)) k2; omega) (by rw [← k.1]; omega) hus
        rw [Nat.add_zero] at hrun
        refine ⟨b, m + off, _, hv, hrun, ?_⟩
        have hlen' : m + off + us.length ≤ c.toList.length := by rw [← k.1]; simp; omega
        have hsz : (Am.splice c.toList (m + off) us).toArray.size = c.size := by simp [splice_length hlen']
        have hsp : c.toList.take (m + off) ++ us ++ c.toList.drop (m + off + us.length) = Am.splice c.toList (m + off) us := rfl
        rw [hsp]
        refine hR.write hlk (Turn.of_setRow k2 hsz (fun j hj => ?_)) ?_
        · rw [List.getElem?_toArray, splice_get hlen', if_neg, Array.getElem?_toList]
          intro hh
          exact hj (k6 j (by omega))
        · refine ⟨b, m, _, ty, f, hl, setRow_heap w b c _ ty f k2, by rw [hsz, splice_length hlen]; omega, ?_, fun a ha => ?_, k6, fun j x y z => k7 j x y (by rw [splice_length hlen] at z; exact z)⟩
          · rw [splice_length hlen]
            have e : ((Am.splice c.toList (m + off) us).drop m).take cs.length = Am.splice ((c.toList.drop m).take cs.length) off us := by
              apply List.ext_getElem?
              intro i
              rw [List.getElem?_take, List.getElem?_drop, splice_get hlen', splice_get (by rw [← k.1]; simp; omega), List.getElem?_take, List.getElem?_drop]
              have hu := k.1
              by_cases hi : i < cs.length
              · rw [if_pos hi]
                by_cases h2 : off ≤ i ∧ i < off + us.length
                · rw [if_pos (by omega), if_pos h2]; congr 1; omega
                · rw [if_neg (by omega), if_neg h2, if_pos hi]
              · rw [if_neg hi, if_neg (by omega), if_neg hi]
            simpa [e] using k4.splice k hlen
          · rcases splice_mem ha with ha | ha
            · exact k5 a ha
            · exact h1 a ha
      · cases h
    · cases h
  · cases h

theorem ok_store {t : TypeId} {x z : Operand} {y q : Opd} {n : Nat} (hR : Rel P ng s w G own) (hf : RepF G fr a) (ho : o.op = .store t x z) (hn : szOf P t = some n) (hx : lowX ng x = some y) (hz : lowX ng z = some q)
    (he : evOp fr s (.store n y q) = some (v, s')) : OpOk P ng G a w o v s' := by
  have r1 := lowX_rep hf hx hR.glob
  have r2 := lowX_rep hf hz hR.glob
  simp only [evOp] at he
  split at he
  · rename_i hc
    split at he
    · rename_i st hst
      cases he
      obtain ⟨k, h1⟩ := r2.nt_cells hc.1
      obtain ⟨b, m, w', hv, hrun, hR'⟩ := store_run (P := P) hR r1 k h1 hst
      have hsz : (a.eval z).cells.size = n := by rw [← hc.2, k.1]; simp
      refine ⟨Go.undef, w', G, own, .inr ⟨?_, rfl⟩, undef_rep G, hR', Gh.le.refl G⟩
      simp [execOp, ho, hv, Instr.storeAt, Instr.sureAddr, storeVar, run_sizeOf hn, hsz, hrun]
    · cases he
  · cases he

end
end Go.Am

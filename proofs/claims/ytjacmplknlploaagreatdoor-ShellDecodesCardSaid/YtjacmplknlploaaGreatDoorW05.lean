/- Maps, bytes, literals. Bytes, literals. Literals. Append. -/
import Derived.Test.YtjacmplknlploaaGreatDoorW04
set_option linter.all false
namespace Go.Am

section
variable {P : Program} {ng fl : Nat} {G : Gh} {own : Own} {fr : List AV} {a : Act} {w : World} {s s' : St} {o : Oper} {io : IOp} {v : AV}

/-! Maps -/

theorem ok_mkmap {t : TypeId} {r : Option Operand} (hR : Rel P ng s w G own) (ho : o.op = .makeMap t r) (hr : r = none ∨ (∃ k n, r = some (.const (.int k n))) ∧ ∃ x y, P.underlying t = some (.map x y))
    (he : evOp fr s .mkmap = some (v, s')) : OpOk P ng G a w o v s' := by
  simp only [evOp, Option.some.injEq, Prod.mk.injEq] at he
  obtain ⟨rfl, rfl⟩ := he
  have hle := hR.push_le (some 0) (fun _ => none) none
  refine ⟨.map (some w.heap.size), { w with heap := w.heap.push (.map #[] 0) }, _, _, .inl ?_, ?_, hR.push_obj (.map #[] 0) 0 0 (fun _ => none) none (.map []) (fun j v e => by cases e) (fun n e => by cases e)
    (fun c' t f e => by cases e) _ rfl ?_, hle⟩
  · rcases hr with rfl | ⟨⟨k, n, rfl⟩, x, y, hu⟩
    · simp [execOp, ho, Instr.makeMap]
    · simp [execOp, ho, Instr.makeMap, run_underlying hu, asInt, asIntOf, Act.eval]
  · exact .map s.next w.heap.size (by simp [Gh.push])
  · intro e' he'
    subst he'
    exact ⟨w.heap.size, #[], 0, by simp [Gh.push], by simp, rfl, fun i p e x y => by simp at x, by simp [Own.push]⟩

theorem fit_len {kk : KK} {A : AV} (h : kk.fit A = true) : ∀ sh, kk = .agg sh → ∃ cs, A = .agg cs ∧ cs.length = sh.length := by
  rintro sh rfl
  cases A <;> simp [KK.fit] at h
  exact ⟨_, rfl, h⟩

theorem ok_look {t k e : TypeId} {kk : KK} {ok : Bool} {z : AV} {x i : Operand} {y j : Opd} (hR : Rel P ng s w G own) (hf : RepF G fr a) (ho : o.op = .lookup t x i ok) (hx : lowX ng x = some y) (hj : lowX ng i = some j)
    (ht : P.underlying t = some (.map k e)) (hk : KeyOk P k kk) (hz : zOf P e = some z) (he : evOp fr s (.look kk ok z y j) = some (v, s')) : OpOk P ng G a w o v s' := by
  have r1 := lowX_rep hf hx hR.glob
  have r2 := lowX_rep hf hj hR.glob
  obtain ⟨zv, hz1, hz2⟩ := run_zeroValue hz w
  obtain ⟨hzr, _⟩ := ofV_rep G hz2
  simp only [evOp] at he
  split at he
  · rename_i hkey
    split at he
    · rename_i es hes
      have hent : ∃ xs : Array MapEntry, es.length = xs.toList.length ∧ (∀ (i : Nat) (p : AV × AV) (e : MapEntry), es[i]? = some p → xs.toList[i]? = some e → RepV G p.1 e.key ∧ RepV G p.2 e.val) ∧
          (a.eval x = .map none ∧ xs = #[] ∨ ∃ b c, a.eval x = .map (some b) ∧ (getObj b).run P w = .ok (.map xs c) w) := by
        split at hes
        · rename_i e1
          cases hes
          rw [e1] at r1
          generalize a.eval x = xv at r1
          cases r1
          exact ⟨#[], rfl, fun i p e h => by simp at h, .inl ⟨rfl, rfl⟩⟩
        · rename_i id e1
          rw [e1] at r1
          split at hes
          · rename_i es' hlk
            cases hes
            generalize a.eval x = xv at r1
            cases r1 with
            | map _ b hb =>
              obtain ⟨b', xs, kk, k1, k2, k3, k4, k5⟩ := hR.objL hlk hb
              rw [hb] at k1; cases k1
              refine ⟨xs, by simpa using k3, fun i p e x y => k4 i p e x (by simpa using y), .inr ⟨b, kk, rfl, ?_⟩⟩
              simp only [getObj, Sem.run, k2]
          · cases hes
        · cases hes
      obtain ⟨xs, hl, hr, hrun⟩ := hent
      have hck := key_check (P := P) (w := w) hk xs.isEmpty r2 (fit_len hkey)
      have fin : ∀ (r : Option (Nat × Value)) (u : Value), (Instr.findKey k (a.eval i) xs.toList).run P w = .ok r w → ((∃ i, r = some (i, u)) ∨ r = none ∧ u = zv) →
          (execOp a.eval o).run P w = .ok (.value (if ok then .tuple #[u, .bool r.isSome] else u)) w := by
        intro r u h2 hu
        rcases hrun with ⟨hx0, rfl⟩ | ⟨b, c, hx0, hg⟩
        · rcases hu with ⟨ii, rfl⟩ | ⟨rfl, rfl⟩ <;>
            simp only [execOp, ho, Instr.lookup, hx0, Sem.run_bind, run_underlying ht, Result.andThen_ok, Sem.run_pure, hck, h2, hz1] <;> rfl
        · rcases hu with ⟨ii, rfl⟩ | ⟨rfl, rfl⟩ <;>
            simp only [execOp, ho, Instr.lookup, hx0, Sem.run_bind, run_underlying ht, Result.andThen_ok, Sem.run_pure, hck, h2, hz1, hg] <;> rfl
      split at he
      · rename_i ii V hfk
        cases he
        obtain ⟨en, e2, e3, e4, e5, e6⟩ := findKey_run (w := w) hk r2 hl hr hfk
        have h2 := fin _ en.val e5 (.inl ⟨_, rfl⟩)
        cases ok
        · exact .pure hR h2 e4
        · have q : RepL G [V, .bool true] [en.val, .bool true] := .cons e4 (.cons (.bool _) (.nil G))
          exact .pure hR h2 (.tup _ _ rfl (fun i a v x y => q.2 i a v x (by simpa using y)))
      · rename_i hfk
        cases he
        have e5 := findKey_run (w := w) hk r2 hl hr hfk
        have h2 := fin none zv e5 (.inr ⟨rfl, rfl⟩)
        cases ok
        · exact .pure hR h2 hzr
        · have q : RepL G [z, .bool false] [zv, .bool false] := .cons hzr (.cons (.bool _) (.nil G))
          exact .pure hR h2 (.tup _ _ rfl (fun i a v x y => q.2 i a v x (by simpa using y)))
      · cases he
    · cases he
  · cases he

theorem heap_set_map {b : Nat} {x y : Go.Obj} (hb : w.heap[b]? = some x) (w' : World) (hw : w'.heap = w.heap.setIfInBounds b y) :
    w'.heap.size = w.heap.size ∧ w'.heap[b]? = some y ∧ ∀ c, c ≠ b → w'.heap[c]? = w.heap[c]? := by
  have hlt : b < w.heap.size := (Array.getElem?_eq_some_iff.1 hb).1
  rw [hw]
  exact ⟨by simp, by simp [hlt], fun c hc => by rw [Array.getElem?_setIfInBounds_ne]; exact fun e => hc e.symm⟩

theorem map_write (hR : Rel P ng s w G own) {id b : Nat} {es es' : List (AV × AV)} {xs xs' : Array MapEntry} {c c' : Nat} (hlk : look s.objs id = some (.map es)) (hloc : G.loc id = some (b, 0)) (hb : w.heap[b]? = some (.map xs c))
    (ho : own b 0 = some id) (hl : es'.length = xs'.size) (hr : ∀ (i : Nat) (p : AV × AV) (e : MapEntry), es'[i]? = some p → xs'[i]? = some e → RepV G p.1 e.key ∧ RepV G p.2 e.val) (w' : World)
    (hw : w'.heap = w.heap.setIfInBounds b (.map xs' c')) (ho0 : w'.os = w.os ∧ w'.output = w.output := by exact ⟨rfl, rfl⟩) : Rel P ng (s.set id (.map es')) w' G own := by
  obtain ⟨h1, h2, h3⟩ := heap_set_map hb w' hw
  refine hR.write hlk ⟨h1, fun x d t f hx => ?_, fun x d t f hx => ?_, fun x ys hx _ hn => ?_, ho0⟩ ⟨b, xs', c', hloc, h2, hl, hr, ho⟩
  · have : x ≠ b := by rintro rfl; rw [hb] at hx; cases hx
    exact ⟨d, by rw [h3 x this]; exact hx, rfl, fun _ _ => rfl⟩
  · have : x ≠ b := by rintro rfl; rw [h2] at hx; cases hx
    exact ⟨d, by rw [h3 x this] at hx; exact hx⟩
  · have : x ≠ b := by rintro rfl; exact hn ho
    rw [h3 x this]; exact hx

theorem ok_mset {t k e : TypeId} {kk : KK} {x i z : Operand} {y j q : Opd} (hR : Rel P ng s w G own) (hf : RepF G fr a) (ho : o.op = .mapUpdate t x i z ∨ o.op = .insert t x i z) (hx : lowX ng x = some y) (hj : lowX ng i = some j) (hz : lowX ng z = some q)
    (ht : P.underlying t = some (.map k e)) (hk : KeyOk P k kk) (he : evOp fr s (.mset kk y j q) = some (v, s')) : OpOk P ng G a w o v s' := by
  have r1 := lowX_rep hf hx hR.glob
  have r2 := lowX_rep hf hj hR.glob
  have r3 := lowX_rep hf hz hR.glob
  have hex : execOp a.eval o = (do Instr.mapUpdate t (a.eval x) (a.eval i) (a.eval z); Pure.pure .skip) := by rcases ho with ho | ho <;> simp [execOp, ho]
  simp only [evOp] at he
  split at he
  case isFalse => cases he
  rename_i hkey
  split at he
  case h_2 => cases he
  rename_i id e1
  rw [e1] at r1
  split at he
  case h_2 => cases he
  rename_i es hlk
  generalize hxv : a.eval x = xv at r1 hex
  cases r1 with
  | map _ b hb =>
    obtain ⟨b', xs, c, k1, k2, k3, k4, k5⟩ := hR.objL hlk hb
    rw [hb] at k1; cases k1
    have hck := key_check (P := P) (w := w) hk false r2 (fit_len hkey)
    have hl : es.length = xs.toList.length := by simpa using k3
    have hr : ∀ (i : Nat) (p : AV × AV) (e : MapEntry), es[i]? = some p → xs.toList[i]? = some e → RepV G p.1 e.key ∧ RepV G p.2 e.val := fun i p e x y => k4 i p e x (by simpa using y)
    have hg : (getObj b).run P w = .ok (.map xs c) w := by simp only [getObj, Sem.run, k2]
    have hset : ∀ ob, (setObj b ob).run P w = .ok () { w with heap := w.heap.setIfInBounds b ob } := by intro ob; simp only [setObj, Sem.run, k2]
    split at he
    · rename_i ii V hfk
      cases he
      obtain ⟨en, e2, e3, e4, h2, e6⟩ := findKey_run (w := w) hk r2 hl hr hfk
      have e2' : xs[ii]? = some en := by simpa using e2
      have hst : (Instr.keyThatStays (((xs[ii]?).map (·.key)).getD (a.eval i)) (a.eval i)).run P w = .ok (a.eval i) w := by
        rw [e2']; simp [Instr.keyThatStays, e6]
      refine ⟨Go.undef, { w with heap := w.heap.setIfInBounds b (.map (xs.modify ii fun e => { e with key := a.eval i, val := a.eval z }) c) }, G, own, .inr ⟨?_, rfl⟩, undef_rep G, ?_, Gh.le.refl G⟩
      · rw [hex]
        simp only [Instr.mapUpdate, Sem.run_bind, run_underlying ht, Result.andThen_ok, hg, hck, h2, hst, hset]; rfl
      · refine map_write hR hlk hb k2 k5 (by simpa using k3) (fun n p e' hp he' => ?_) _ rfl
        rw [List.getElem?_set] at hp
        rw [Array.getElem?_modify] at he'
        split at hp
        · rename_i hn
          rw [if_pos hn] at he'
          subst hn
          rw [e2'] at he'
          simp at he'
          cases hp; subst he'; exact ⟨r2, r3⟩
        · rename_i hn
          rw [if_neg hn] at he'
          exact k4 n p e' hp he'
    · rename_i hfk
      cases he
      have h2 := findKey_run (w := w) hk r2 hl hr hfk
      refine ⟨Go.undef, { w with heap := w.heap.setIfInBounds b (.map (xs.push { key := a.eval i, val := a.eval z, born := c }) (c + 1)) }, G, own, .inr ⟨?_, rfl⟩, undef_rep G, ?_, Gh.le.refl G⟩
      · rw [hex]
        simp only [Instr.mapUpdate, Sem.run_bind, run_underlying ht, Result.andThen_ok, hg, hck, h2, hset]; rfl
      · refine map_write hR hlk hb k2 k5 (by simp [k3]) (fun n p e' hp he' => ?_) _ rfl
        rw [List.getElem?_append] at hp
        rw [Array.getElem?_push] at he'
        split at hp
        · rename_i hn
          rw [if_neg (by omega)] at he'
          exact k4 n p e' hp he'
        · rename_i hn
          by_cases hnn : n = xs.size
          · rw [if_pos hnn] at he'
            subst hnn
            simp [k3] at hp
            cases he'; subst hp; exact ⟨r2, r3⟩
          · rw [if_neg hnn] at he'
            have : n < xs.size := (Array.getElem?_eq_some_iff.1 he').1
            omega
    · cases he

/-! Bytes -/

theorem rows_flat {sz n : Nat} {cs : List AV} (h : n * sz ≤ cs.length) (h1 : ∀ a ∈ cs, a.one = true) {ag : Bool} (hz : 0 < sz) (hag : ag = true ∨ sz = 1) :
    (rows ag sz n cs).length = n ∧ (∀ x ∈ rows ag sz n cs, x.nt = true ∧ x.cells.length = sz) ∧ (rows ag sz n cs).flatMap AV.cells = cs.take (n * sz) := by
  cases ag with
  | true =>
    simp only [rows, if_true]
    refine ⟨by simp, fun x hx => ?_, ?_⟩
    · obtain ⟨i, hi, rfl⟩ := List.mem_map.1 hx
      have hin : i < n := by simpa using hi
      refine ⟨rfl, ?_⟩
      simp only [AV.cells, List.length_take, List.length_drop]
      have : (i + 1) * sz ≤ n * sz := Nat.mul_le_mul_right sz hin
      rw [Nat.add_mul] at this
      omega
    · clear h1 hag
      induction n with
      | zero => simp
      | succ n ih =>
        have hle : n * sz ≤ cs.length := by rw [Nat.add_mul] at h; omega
        rw [List.range_succ, List.map_append, List.flatMap_append, ih hle, List.map_singleton, List.flatMap_singleton]
        simp only [AV.cells]
        rw [Nat.add_mul, Nat.one_mul, List.take_add]
  | false =>
    obtain rfl : sz = 1 := by rcases hag with h | h; cases h; exact h
    simp only [rows, Bool.false_eq_true, if_false, Nat.mul_one] at h ⊢
    refine ⟨by simp; omega, fun x hx => ?_, ?_⟩
    · have := h1 x (List.mem_of_mem_take hx)
      exact ⟨AV.one_nt this, by rw [AV.one_cells this]; rfl⟩
    · have : ∀ l : List AV, (∀ a ∈ l, a.one = true) → l.flatMap AV.cells = l := by
        intro l hl
        induction l with
        | nil => rfl
        | cons x r ih => rw [List.flatMap_cons, AV.one_cells (hl x (by simp)), ih (fun a ha => hl a (List.mem_cons_of_mem _ ha))]; rfl
      exact this _ (fun a ha => h1 a (List.mem_of_mem_take ha))

/-- What is read as a slice: its cells in memory. -/
theorem elems_rep (hR : Rel P ng s w G own) {ag : Bool} {sz : Nat} (hsz : 0 < sz) {A : AV} {x : Value} (r : RepV G A x) {xs : List AV} (h : elems s.objs ag sz A = some xs) (hns : ∀ b, A ≠ .str b) :
    (∃ vs, RepL G (xs.flatMap AV.cells) vs ∧ (Builtin.lenOf x).run P w = .ok xs.length w ∧ (∀ n, n ≤ xs.length → (Builtin.firstCells sz n x).run P w = .ok (vs.take (n * sz)).toArray w)) ∧
    (∀ x ∈ xs, x.nt = true ∧ x.cells.length = sz) ∧ (∀ x ∈ xs, ∀ a ∈ x.cells, a.one = true) ∧
    (x = .slice none 0 0 ∧ xs = [] ∨ ∃ p cap, x = .slice (some p) xs.length cap) := by
  cases A <;> try (simp [elems] at h; done)
  · exact absurd rfl (hns _)
  · simp [elems] at h; subst h
    rw [r.nsl_inv]
    exact ⟨⟨[], .nil G, rfl, fun n hn => by simp [Builtin.firstCells]⟩, by simp, by simp, .inl ⟨rfl, rfl⟩⟩
  · rename_i t z ys
    simp only [elems] at h
    split at h
    · rename_i ez
      subst ez
      cases h
      obtain ⟨b, m, cap, n, hv, hz0, hs, hfx, hc, hbz, hn, _, _⟩ := r.sl_inv
      obtain ⟨vs, q1, q2, q3, q4⟩ := hfx
      have hfl := flat_length hs
      have hcell : ∀ (j : Nat) u, vs[j]? = some u → w.cell? ⟨b, m + j, none⟩ = some u := by
        intro j u hu
        obtain ⟨c, ty, f, e1, e2⟩ := hR.imm _ _ _ (q2 j u hu)
        simp only [World.cell?, e1]; exact e2
      refine ⟨⟨vs, q4, by rw [hv]; rfl, fun k hk => ?_⟩, hs, fun x hx a ha => q3 a (List.mem_flatMap.2 ⟨x, hx, ha⟩), .inr ⟨_, cap, hv⟩⟩
      rw [hv]
      have hl : (vs.take (k * z)).length = k * z := by
        have : k * z ≤ xs.length * z := Nat.mul_le_mul_right z hk
        simp; omega
      have := run_loadCells_list (P := P) w ⟨b, m, none⟩ (vs.take (k * z)) (fun j u hu => by
        rw [add_none]; rw [List.getElem?_take] at hu
        split at hu
        · exact hcell j u hu
        · cases hu)
      rw [hl] at this
      simpa [Builtin.firstCells] using this
    · cases h
  · rename_i id off len z
    simp only [elems] at h
    split at h
    · rename_i ez
      obtain ⟨rfl, hag⟩ := ez
      split at h
      · rename_i cs hcs
        split at h
        · rename_i hlen
          cases h
          obtain ⟨b, m, cap, n, hv, hz0, hloc, hc, hbz, hn⟩ := r.hsl_inv
          obtain ⟨b', m', c, ty, f, k1, k2, k3, k4, k5⟩ := cells_obj hR hloc hcs
          rw [hloc] at k1; cases k1
          obtain ⟨p1, p2, p3⟩ := rows_flat (ag := ag) hlen k5 hsz hag
          refine ⟨⟨((c.toList.drop (m + off * z)).take cs.length).take (len * z), by rw [p3]; exact k4.take _, by rw [hv, p1]; rfl, fun k hk => ?_⟩, p2, fun x hx a ha => ?_, .inr ⟨_, cap, by rw [p1]; exact hv⟩⟩
          · rw [hv]
            rw [p1] at hk
            have hkl : k * z ≤ len * z := Nat.mul_le_mul_right z hk
            have hl4 := k4.1
            have hl : ((((c.toList.drop (m + off * z)).take cs.length).take (len * z)).take (k * z)).length = k * z := by
              rw [List.length_take, List.length_take, ← hl4]; omega
            have := run_loadCells_list (P := P) w ⟨b, m + off * z, none⟩ ((((c.toList.drop (m + off * z)).take cs.length).take (len * z)).take (k * z)) (fun j u hu => by
              rw [add_none]
              rw [List.getElem?_take] at hu
              split at hu
              · rw [List.getElem?_take] at hu
                split at hu
                · rw [List.getElem?_take] at hu
                  split at hu
                  · simp only [World.cell?, k2]
                    rw [List.getElem?_drop, Array.getElem?_toList] at hu
                    exact hu
                  · cases hu
                · cases hu
              · cases hu)
            rw [hl] at this
            simpa [Builtin.firstCells] using this
          · have : a ∈ (rows ag z len cs).flatMap AV.cells := List.mem_flatMap.2 ⟨x, hx, ha⟩
            rw [p3] at this
            exact k5 a (List.mem_of_mem_take this)
        · cases h
      · cases h
    · cases h

end
end Go.Am

namespace Go.Am

section
variable {P : Program} {ng fl : Nat} {G : Gh} {own : Own} {fr : List AV} {a : Act} {w : World} {s s' : St} {o : Oper} {io : IOp} {v : AV}

theorem bytesOf_rep : ∀ {xs : List AV} {b : List Nat} {vs : List Value}, bytesOf xs = some b → RepL G xs vs → ∃ ns : List Int, vs = ns.map (Value.int .u8) ∧ b = ns.map fun n => n.toNat % 256
  | [], b, vs, h, r => by
    simp [bytesOf] at h; subst h
    have := r.1
    obtain rfl : vs = [] := by simpa using this.symm
    exact ⟨[], rfl, rfl⟩
  | x :: xs, b, [], h, r => by have := r.1; simp at this
  | x :: xs, b, v :: vs, h, r => by
    cases x <;> try (simp [bytesOf] at h; done)
    rename_i k n
    cases k <;> try (simp [bytesOf] at h; done)
    simp only [bytesOf] at h
    cases h1 : bytesOf xs with
    | none => simp [h1] at h
    | some l =>
      simp [h1] at h; subst h
      obtain ⟨ns, e1, e2⟩ := bytesOf_rep h1 r.tail
      have := r.head.int_inv
      exact ⟨n :: ns, by simp [this, e1], by simp [e2]⟩

theorem foldl_push (ns : List Int) : ∀ (r : ByteArray), ((ns.foldl (fun r n => r.push (UInt8.ofNat n.toNat)) r).data.toList.map UInt8.toNat) = r.data.toList.map UInt8.toNat ++ ns.map fun n => n.toNat % 256 := by
  induction ns with
  | nil => intro r; simp
  | cons n ns ih =>
    intro r
    rw [List.foldl_cons, ih]
    simp [ByteArray.push, UInt8.toNat_ofNat']

theorem ones_flat {xs : List AV} (h : ∀ a ∈ xs, a.one = true) : xs.flatMap AV.cells = xs := by
  induction xs with
  | nil => rfl
  | cons x r ih => rw [List.flatMap_cons, AV.one_cells (h x (by simp)), ih (fun a ha => h a (List.mem_cons_of_mem _ ha))]; rfl

theorem bytesOf_one : ∀ {xs : List AV} {b : List Nat}, bytesOf xs = some b → ∀ a ∈ xs, a.one = true
  | [], _, _ => by simp
  | x :: xs, b, h => by
    cases x <;> try (simp [bytesOf] at h; done)
    rename_i k n
    cases k <;> try (simp [bytesOf] at h; done)
    simp only [bytesOf] at h
    cases h1 : bytesOf xs with
    | none => simp [h1] at h
    | some l =>
      intro a ha
      rcases List.mem_cons.1 ha with rfl | ha
      · rfl
      · exact bytesOf_one h1 a ha

theorem ok_b2s {S D e : TypeId} {x : Operand} {y : Opd} (hR : Rel P ng s w G own) (hf : RepF G fr a) (ho : o.op = .convert S D x) (hx : lowX ng x = some y) (hs : P.underlying S = some (.slice e))
    (hd : P.underlying D = some .string) (hu : P.underlying e = some (.int .u8)) (he : evOp fr s (.b2s y) = some (v, s')) : OpOk P ng G a w o v s' := by
  have r := lowX_rep hf hx hR.glob
  have key : ∀ (xs : List AV) (b : List Nat), (∀ b, y.ev fr ≠ .str b) → elems s.objs false 1 (y.ev fr) = some xs → bytesOf xs = some b → OpOk P ng G a w o (.str b) s := by
    intro xs b hns hxs hb
    obtain ⟨⟨vs, h1, h2, h3⟩, h4, h5, h6⟩ := elems_rep (P := P) hR (by omega) r hxs hns
    rw [ones_flat (bytesOf_one hb)] at h1
    obtain ⟨ns, rfl, rfl⟩ := bytesOf_rep hb h1
    have hn := h3 xs.length (Nat.le_refl _)
    rcases h6 with ⟨hv, rfl⟩ | ⟨p, cap, hv⟩
    · have : ns = [] := by have := h1.1; simpa using this.symm
      subst this
      exact .pure hR (u := .string .empty) (by simp [execOp, ho, hv, convert, run_underlying hs, run_underlying hd, run_underlying hu, Conv.bytesToString]) (.str _ _ rfl)
    · have hl : (ns.map (Value.int .u8)).length = xs.length := h1.1.symm
      rw [hv] at hn
      simp only [Builtin.firstCells, Nat.mul_one] at hn
      rw [List.take_of_length_le (by omega)] at hn
      have := run_bytesToString (P := P) w p xs.length cap ns hn
      refine .pure hR (u := .string _) (by simp only [execOp, ho, hv, convert, Sem.run_bind, run_underlying hs, run_underlying hd, run_underlying hu, Result.andThen_ok, this]; rfl) (.str _ _ ?_)
      rw [foldl_push]; rfl
  simp only [evOp] at he
  split at he
  · cases he
  · rename_i hns
    split at he
    · rename_i xs hxs
      split at he
      · rename_i b hb
        cases he
        exact key xs b (fun b e => hns b e) hxs hb
      · cases he
    · cases he

/-- What is read as a slice or a string: its cells in memory. -/
theorem src_rep (hR : Rel P ng s w G own) {ag : Bool} {sz : Nat} (hsz : 0 < sz) {A : AV} {x : Value} (r : RepV G A x) {xs : List AV} (h : elems s.objs ag sz A = some xs) :
    (∃ vs, RepL G (xs.flatMap AV.cells) vs ∧ (Builtin.lenOf x).run P w = .ok xs.length w ∧ (∀ n, n ≤ xs.length → (Builtin.firstCells sz n x).run P w = .ok (vs.take (n * sz)).toArray w)) ∧
    (∀ x ∈ xs, x.nt = true ∧ x.cells.length = sz) ∧ (∀ x ∈ xs, ∀ a ∈ x.cells, a.one = true) := by
  by_cases hs : ∃ b, A = .str b
  · obtain ⟨b, rfl⟩ := hs
    simp only [elems] at h
    split at h
    · rename_i e1
      subst e1
      cases h
      obtain ⟨z, hv, hz⟩ := r.str_inv
      have hone : ∀ x ∈ (b.map fun c => AV.int .u8 (Int.ofNat c)), x.one = true := by intro x hx; obtain ⟨c, _, rfl⟩ := List.mem_map.1 hx; rfl
      have hsz : z.size = b.length := by rw [← hz, List.length_map, Array.length_toList]; rfl
      refine ⟨⟨b.map fun c => Value.int .u8 (Int.ofNat c), ?_, by rw [hv]; simp [Builtin.lenOf, hsz], fun n hn => ?_⟩, fun x hx => ?_, fun x hx a ha => ?_⟩
      · rw [ones_flat hone]
        refine ⟨by simp, fun i p q e1 e2 => ?_⟩
        rw [List.getElem?_map, Option.map_eq_some_iff] at e1 e2
        obtain ⟨c, hc, rfl⟩ := e1
        obtain ⟨c', hc', rfl⟩ := e2
        rw [hc] at hc'; cases hc'
        exact .int _ _
      · rw [hv]
        simp only [Builtin.firstCells, Sem.run_pure]
        congr 1
        apply Array.ext'
        simp only [Array.toList_map, ByteArray.data_extract, Array.toList_extract, List.extract_eq_take_drop, List.drop_zero, Nat.sub_zero, Nat.mul_one, List.take_toArray]
        rw [← hz, List.map_map, ← List.map_take]
        rfl
      · have := hone x hx; exact ⟨AV.one_nt this, by rw [AV.one_cells this]; rfl⟩
      · have := hone x hx; rw [AV.one_cells this] at ha; simp at ha; subst ha; exact this
    · cases h
  · obtain ⟨h1, h2, h3, _⟩ := elems_rep (P := P) hR hsz r h (fun b e => hs ⟨b, e⟩)
    exact ⟨h1, h2, h3⟩

theorem ok_copy {x z : Operand} {y q : Opd} {cal : Call} {t t2 e : TypeId} {n : Nat} (hR : Rel P ng s w G own) (hf : RepF G fr a) (ho : o.op = .call cal) (hc : cal.callee = .builtin .copy) (hts : cal.argTypes.toList = [t, t2])
    (hxs : cal.args.toList = [x, z]) (hx : lowX ng x = some y) (hz : lowX ng z = some q) (ht : P.underlying t = some (.slice e)) (hsz : szOf P e = some n) (he : evOp fr s (.copy n y q) = some (v, s')) : OpOk P ng G a w o v s' := by
  have r1 := lowX_rep hf hx hR.glob
  have r2 := lowX_rep hf hz hR.glob
  have hex := call_builtin (a := a) ho hc
  rw [arr_of hts, arr_of hxs] at hex
  simp only [evOp] at he
  split at he
  case h_2 => cases he
  rename_i id off len z' e1
  split at he
  case isFalse => cases he
  rename_i hzz
  obtain ⟨rfl, rfl⟩ := hzz
  split at he
  case h_2 => cases he
  rename_i xs hxs'
  split at he
  case h_2 => cases he
  rename_i st hst
  cases he
  rw [e1] at r1
  obtain ⟨b, m, cap, nn, hv, hz0, hloc, hcap, hbz, hn⟩ := r1.hsl_inv
  obtain ⟨⟨vs, h1, h2, h3⟩, h4, h5⟩ := src_rep (P := P) hR (by omega) r2 hxs'
  have hmin : min xs.length len ≤ xs.length := Nat.min_le_left _ _
  have hn3 := h3 _ hmin
  have htk : (xs.take (min xs.length len)).flatMap AV.cells = (xs.flatMap AV.cells).take (min xs.length len * 1) := flat_take h4 _
  have rp : RepV G (.ptr id off) (.pointer (some ⟨b, m + off, none⟩)) := .ptr id off b m hloc
  obtain ⟨b', m', w', hv', hrun, hR'⟩ := store_run (P := P) hR rp (us := vs.take (min xs.length len * 1)) (by rw [htk]; exact h1.take _)
    (fun a ha => by obtain ⟨x, hx, ha⟩ := List.mem_flatMap.1 ha; exact h5 x (List.mem_of_mem_take hx) a ha) hst
  cases hv'
  refine ⟨goInt ((min xs.length len : Nat) : Int), w', G, own, .inl ?_, .int _ _, hR', Gh.le.refl G⟩
  rw [hex]
  simp only [builtin, Builtin.copy_]
  simp [run_underlying ht, hv, h2, run_sizeOf hsz]
  rw [Nat.mul_one] at hn3 hrun
  have e2 : Nat.min xs.length len = min xs.length len := rfl
  rw [e2, hn3]
  simp [hrun]

/-! Aggregates -/

theorem fill_rep {place : Nat → Option (Nat × Nat)} : ∀ {ps : List (Nat × Nat × Opd)} {qs : List (Nat × Value)} {cs cs' : List AV} {xs : Array Value}, ps.length = qs.length →
    (∀ (i : Nat) (p : Nat × Nat × Opd) (q : Nat × Value), ps[i]? = some p → qs[i]? = some q → place q.1 = some (p.1, p.2.1) ∧ RepV G (p.2.2.ev fr) q.2) →
    RepL G cs xs.toList → (∀ a ∈ cs, a.one = true) → fills cs fr ps = some cs' → ∃ ys, Instr.fill place xs qs = some ys ∧ RepL G cs' ys.toList ∧ (∀ a ∈ cs', a.one = true)
  | [], qs, cs, cs', xs, hl, hp, hr, h1, h => by
    obtain rfl : qs = [] := by simpa using hl.symm
    simp [fills] at h; subst h
    exact ⟨xs, rfl, hr, h1⟩
  | p :: ps, [], cs, cs', xs, hl, hp, hr, h1, h => by simp at hl
  | (off, sz, X) :: ps, (i, x) :: qs, cs, cs', xs, hl, hp, hr, h1, h => by
    obtain ⟨hpl, hx⟩ := hp 0 _ _ rfl rfl
    simp only at hpl hx
    simp only [fills] at h
    split at h
    case isFalse => cases h
    rename_i hc
    split at h
    case h_2 => cases h
    rename_i cs1 hput
    obtain ⟨hlen, rfl⟩ := put_eq hput
    obtain ⟨k, k1⟩ := hx.nt_cells hc.1
    have hsz : x.cells.size = sz := by rw [← hc.2, k.1]; simp
    have hlen' : off + x.cells.toList.length ≤ xs.toList.length := by rw [← k.1, ← hr.1]; exact hlen
    simp only [Instr.fill, hpl]
    rw [if_neg (by simp at hlen'; simp; omega)]
    obtain ⟨g1, g2⟩ := Go.Great.foldl_set off x.cells.toList 0 xs
    have heq : (x.cells.zipIdx.foldl (fun cs (c : Value × Nat) => cs.setIfInBounds (off + c.2) c.1) xs) = (Am.splice xs.toList off x.cells.toList).toArray := by
      apply Array.ext_getElem?
      intro i
      have e0 : (Am.splice xs.toList off x.cells.toList).toArray[i]? = (Am.splice xs.toList off x.cells.toList)[i]? := by simp
      rw [← Array.foldl_toList, Array.toList_zipIdx, g2 i, e0, splice_get hlen']
      simp only [Nat.add_zero, Array.length_toList]
      by_cases hi : off ≤ i ∧ i < off + x.cells.size
      · rw [if_pos ⟨hi.1, hi.2, by simp at hlen'; omega⟩, if_pos hi]
      · rw [if_neg (by omega), if_neg hi]; simp
    have heq' : (x.cells.zipIdx.foldl (fun cs (x : Value × Nat) => match x with | (c, j) => cs.setIfInBounds (off + j) c) xs) = (Am.splice xs.toList off x.cells.toList).toArray := heq
    refine fill_rep (by simpa using hl) (fun i p q e1 e2 => hp (i + 1) p q (by simpa using e1) (by simpa using e2)) ?_ ?_ h
    · rw [heq']; simpa using hr.splice k hlen
    · intro a ha
      rcases splice_mem ha with ha | ha
      · exact h1 a ha
      · exact k1 a ha

end
end Go.Am

namespace Go.Am

section
variable {P : Program} {ng fl : Nat} {G : Gh} {own : Own} {fr : List AV} {a : Act} {w : World} {s s' : St} {o : Oper} {io : IOp} {v : AV}

theorem lowF_rep (hf : RepF G fr a) (hg : Glob ng G) {fs : Array Field} {pl : Nat → Option (Nat × Nat)} (hpl : ∀ (i : Nat) f n, fs[i]? = some f → szOf P f.type = some n → pl i = some (f.offset, n)) :
    ∀ {qs : List (Nat × Operand)} {ps : List (Nat × Nat × Opd)}, lowF P ng fs qs = some ps → ps.length = qs.length ∧
    ∀ (i : Nat) (p : Nat × Nat × Opd) (q : Nat × Value), ps[i]? = some p → (qs.map fun (i, x) => (i, a.eval x))[i]? = some q → pl q.1 = some (p.1, p.2.1) ∧ RepV G (p.2.2.ev fr) q.2
  | [], ps, h => by simp [lowF] at h; subst h; simp
  | (i, x) :: qs, ps, h => by
    simp only [lowF] at h
    split at h
    case h_2 => cases h
    rename_i f y l h1 h2 h3
    split at h
    case h_2 => cases h
    rename_i n hn
    cases h
    obtain ⟨e1, e2⟩ := lowF_rep hf hg hpl h3
    refine ⟨by simp [e1], fun j p q x1 x2 => ?_⟩
    cases j with
    | zero => simp at x1 x2; subst x1; subst x2; exact ⟨hpl i f n h1 hn, lowX_rep hf h2 hg⟩
    | succ j => exact e2 j p q (by simpa using x1) (by simpa using x2)

theorem lowA_rep (hf : RepF G fr a) (hg : Glob ng G) {sz : Nat} :
    ∀ {qs : List (Nat × Operand)} {ps : List (Nat × Nat × Opd)}, lowA ng sz qs = some ps → ps.length = qs.length ∧
    ∀ (i : Nat) (p : Nat × Nat × Opd) (q : Nat × Value), ps[i]? = some p → (qs.map fun (i, x) => (i, a.eval x))[i]? = some q → some (q.1 * sz, sz) = some (p.1, p.2.1) ∧ RepV G (p.2.2.ev fr) q.2
  | [], ps, h => by simp [lowA] at h; subst h; simp
  | (i, x) :: qs, ps, h => by
    simp only [lowA] at h
    split at h
    case h_2 => cases h
    rename_i y l h1 h2
    cases h
    obtain ⟨e1, e2⟩ := lowA_rep hf hg h2
    refine ⟨by simp [e1], fun j p q x1 x2 => ?_⟩
    cases j with
    | zero => simp at x1 x2; subst x1; subst x2; exact ⟨rfl, lowX_rep hf h1 hg⟩
    | succ j => exact e2 j p q (by simpa using x1) (by simpa using x2)

theorem run_mapM_places {fs : Array Field} : ∀ (l : List Field), (∀ f ∈ l, ∃ n, szOf P f.type = some n) → ∃ r : List (Nat × Nat), (l.mapM fun f => (do Pure.pure (f.offset, ← sizeOf f.type) : Sem (Nat × Nat))).run P w = .ok r w ∧
    r.length = l.length ∧ ∀ (i : Nat) f n, l[i]? = some f → szOf P f.type = some n → r[i]? = some (f.offset, n)
  | [], _ => ⟨[], rfl, rfl, fun i f n h => by simp at h⟩
  | f :: l, h => by
    obtain ⟨n, hn⟩ := h f (by simp)
    obtain ⟨r, h1, h2, h3⟩ := run_mapM_places (fs := fs) l (fun g hg => h g (List.mem_cons_of_mem _ hg))
    refine ⟨(f.offset, n) :: r, ?_, by simp [h2], fun i g k e1 e2 => ?_⟩
    · simp only [List.mapM_cons, Sem.run_bind, run_sizeOf hn, Sem.run_pure, Result.andThen_ok, h1]
    · cases i with
      | zero => simp at e1; subst e1; rw [hn] at e2; cases e2; rfl
      | succ i => exact h3 i g k (by simpa using e1) e2

theorem ok_buildA {t e : TypeId} {n sz : Nat} {z : AV} {qs : Array (Nat × Operand)} {ps : List (Nat × Nat × Opd)} (hR : Rel P ng s w G own) (hf : RepF G fr a) (ho : o.op = .build t qs) (hz : zOf P t = some z)
    (ht : P.underlying t = some (.array n e)) (hsz : szOf P e = some sz) (hl : lowA ng sz qs.toList = some ps) (he : evOp fr s (.build z.cells ps) = some (v, s')) : OpOk P ng G a w o v s' := by
  obtain ⟨zv, hz1, hz2⟩ := run_zeroValue hz w
  obtain ⟨hzr, hnt⟩ := ofV_rep G hz2
  obtain ⟨hzc, hz0⟩ := hzr.nt_cells hnt
  simp only [evOp] at he
  split at he
  case h_2 => cases he
  rename_i cs hcs
  cases he
  obtain ⟨l1, l2⟩ := lowA_rep (a := a) hf hR.glob hl
  obtain ⟨ys, hy, hyr, hy1⟩ := fill_rep (place := fun i => some (i * sz, sz)) (by simpa using l1) l2 hzc hz0 hcs
  refine .pure hR (u := .agg ys) ?_ (.agg cs ys (by simpa using hyr.1) hy1 (fun i a v x y => hyr.2 i a v x (by simpa using y)))
  have e0 : (qs.map fun (x : Nat × Operand) => match x with | (i, x) => (i, a.eval x)).toList = qs.toList.map fun (i, x) => (i, a.eval x) := by simp
  simp only [execOp, ho, Instr.build, Sem.run_bind, hz1, Result.andThen_ok, run_underlying ht, run_sizeOf hsz]
  rw [e0, hy]; rfl

theorem ok_buildS {t : TypeId} {fs : Array Field} {z : AV} {qs : Array (Nat × Operand)} {ps : List (Nat × Nat × Opd)} (hR : Rel P ng s w G own) (hf : RepF G fr a) (ho : o.op = .build t qs) (hz : zOf P t = some z)
    (ht : P.underlying t = some (.struct fs)) (hsz : ∀ f ∈ fs.toList, ∃ n, szOf P f.type = some n) (hl : lowF P ng fs qs.toList = some ps) (he : evOp fr s (.build z.cells ps) = some (v, s')) : OpOk P ng G a w o v s' := by
  obtain ⟨zv, hz1, hz2⟩ := run_zeroValue hz w
  obtain ⟨hzr, hnt⟩ := ofV_rep G hz2
  obtain ⟨hzc, hz0⟩ := hzr.nt_cells hnt
  simp only [evOp] at he
  split at he
  case h_2 => cases he
  rename_i cs hcs
  cases he
  obtain ⟨r, h1, h2, h3⟩ := run_mapM_places (P := P) (w := w) (fs := fs) fs.toList hsz
  obtain ⟨l1, l2⟩ := lowF_rep (a := a) hf hR.glob (fs := fs) (pl := fun i => r.toArray[i]?) (fun i f n e1 e2 => by simpa using h3 i f n (by simpa using e1) e2) hl
  obtain ⟨ys, hy, hyr, hy1⟩ := fill_rep (by simpa using l1) l2 hzc hz0 hcs
  refine .pure hR (u := .agg ys) ?_ (.agg cs ys (by simpa using hyr.1) hy1 (fun i a v x y => hyr.2 i a v x (by simpa using y)))
  have e0 : (qs.map fun (x : Nat × Operand) => match x with | (i, x) => (i, a.eval x)).toList = qs.toList.map fun (i, x) => (i, a.eval x) := by simp
  have hm : (fs.mapM fun f => (do Pure.pure (f.offset, ← sizeOf f.type) : Sem (Nat × Nat))).run P w = .ok r.toArray w := by
    rw [Array.mapM_eq_mapM_toList, Sem.run_map, h1]; rfl
  simp only [execOp, ho, Instr.build, Sem.run_bind, hz1, Result.andThen_ok, run_underlying ht, hm]
  rw [e0, hy]; rfl

/-! Rows of equal cells -/

theorem rep_cells (z : Array Value) : ∀ n, ((Array.range (n * z.size)).map (fun i => z[i % z.size]!)).toList = (List.replicate n z.toList).flatten
  | 0 => by simp
  | n + 1 => by
    have ih := rep_cells z n
    simp only [Array.toList_map, Array.toList_range] at ih ⊢
    rw [Nat.add_mul, Nat.one_mul, List.range_add, List.map_append, ih, List.map_map, List.replicate_succ', List.flatten_append]
    congr 1
    simp only [List.flatten_cons, List.flatten_nil, List.append_nil]
    apply List.ext_getElem?
    intro i
    rw [List.getElem?_map]
    by_cases hi : i < z.size
    · simp [hi, Nat.mul_add_mod_of_lt, Nat.mul_comm n, Nat.mod_eq_of_lt hi]
    · simp [hi]

theorem flat_set {z : Nat} : ∀ {xs : List AV} (_ : ∀ x ∈ xs, x.nt = true ∧ x.cells.length = z) (n : Nat) {x : AV} (_ : x.cells.length = z) (_ : n < xs.length),
    (xs.set n x).flatMap AV.cells = Am.splice (xs.flatMap AV.cells) (n * z) x.cells
  | [], _, n, x, _, hn => by simp at hn
  | y :: r, h, 0, x, hx, hn => by
    simp only [List.set_cons_zero, List.flatMap_cons, Am.splice, Nat.zero_mul, List.take_zero, List.nil_append, Nat.zero_add]
    rw [List.drop_append, (h y (by simp)).2, hx, Nat.sub_self, List.drop_zero, List.drop_eq_nil_of_le (as := y.cells) (by rw [(h y (by simp)).2]; exact Nat.le_refl _)]; rfl
  | y :: r, h, n + 1, x, hx, hn => by
    have hy := (h y (by simp)).2
    have ih := flat_set (fun q hq => h q (List.mem_cons_of_mem _ hq)) n hx (by simpa using hn)
    rw [List.set_cons_succ, List.flatMap_cons, ih, List.flatMap_cons]
    simp only [Am.splice]
    have e1 : (n + 1) * z = y.cells.length + n * z := by rw [Nat.add_mul, hy]; omega
    rw [e1, List.take_length_add_append, Nat.add_assoc, List.drop_length_add_append]
    simp

theorem fillE_rep {z : Nat} : ∀ {ps : List (Nat × Opd)} {qs : List (Nat × Value)} {xs xs' : List AV} {vs : Array Value}, ps.length = qs.length →
    (∀ (i : Nat) (p : Nat × Opd) (q : Nat × Value), ps[i]? = some p → qs[i]? = some q → p.1 = q.1 ∧ RepV G (p.2.ev fr) q.2) →
    RepL G (xs.flatMap AV.cells) vs.toList → (∀ x ∈ xs, x.nt = true ∧ x.cells.length = z) → (∀ x ∈ xs, ∀ a ∈ x.cells, a.one = true) → fillE z xs fr ps = some xs' →
    ∃ ys, Instr.fill (fun i => some (i * z, z)) vs qs = some ys ∧ RepL G (xs'.flatMap AV.cells) ys.toList ∧ xs'.length = xs.length ∧ (∀ x ∈ xs', x.nt = true ∧ x.cells.length = z) ∧ (∀ x ∈ xs', ∀ a ∈ x.cells, a.one = true)
  | [], qs, xs, xs', vs, hl, hp, hr, hz, h1, h => by
    obtain rfl : qs = [] := by simpa using hl.symm
    simp [fillE] at h; subst h
    exact ⟨vs, rfl, hr, rfl, hz, h1⟩
  | p :: ps, [], xs, xs', vs, hl, hp, hr, hz, h1, h => by simp at hl
  | (i, X) :: ps, (j, x) :: qs, xs, xs', vs, hl, hp, hr, hz, h1, h => by
    obtain ⟨hij, hx⟩ := hp 0 _ _ rfl rfl
    simp only at hij hx
    subst hij
    simp only [fillE] at h
    split at h
    case isFalse => cases h
    rename_i hc
    obtain ⟨hc1, hc2, hc3⟩ := hc
    obtain ⟨k, k1⟩ := hx.nt_cells hc1
    have hsz : x.cells.size = z := by rw [← hc2, k.1]; simp
    have hfl := flat_length hz
    have hle : (i + 1) * z ≤ xs.length * z := Nat.mul_le_mul_right z hc3
    have hlen : i * z + (X.ev fr).cells.length ≤ (xs.flatMap AV.cells).length := by rw [hfl, hc2]; rw [Nat.add_mul] at hle; omega
    have hlen' : i * z + x.cells.toList.length ≤ vs.toList.length := by rw [← k.1, ← hr.1]; exact hlen
    simp only [Instr.fill]
    rw [if_neg (by simp at hlen'; simp; omega)]
    obtain ⟨g1, g2⟩ := Go.Great.foldl_set (i * z) x.cells.toList 0 vs
    have heq : (x.cells.zipIdx.foldl (fun cs (c : Value × Nat) => cs.setIfInBounds (i * z + c.2) c.1) vs) = (Am.splice vs.toList (i * z) x.cells.toList).toArray := by
      apply Array.ext_getElem?
      intro m
      have e0 : (Am.splice vs.toList (i * z) x.cells.toList).toArray[m]? = (Am.splice vs.toList (i * z) x.cells.toList)[m]? := by simp
      rw [← Array.foldl_toList, Array.toList_zipIdx, g2 m, e0, splice_get hlen']
      simp only [Nat.add_zero, Array.length_toList]
      by_cases hi : i * z ≤ m ∧ m < i * z + x.cells.size
      · rw [if_pos ⟨hi.1, hi.2, by simp at hlen'; omega⟩, if_pos hi]
      · rw [if_neg (by omega), if_neg hi]; simp
    have heq' : (x.cells.zipIdx.foldl (fun cs (x : Value × Nat) => match x with | (c, j) => cs.setIfInBounds (i * z + j) c) vs) = (Am.splice vs.toList (i * z) x.cells.toList).toArray := heq
    have hfs := flat_set hz i hc2 hc3
    obtain ⟨ys, r1, r2, r3, r4, r5⟩ := fillE_rep (vs := (Am.splice vs.toList (i * z) x.cells.toList).toArray) (by simpa using hl) (fun i p q e1 e2 => hp (i + 1) p q (by simpa using e1) (by simpa using e2)) (xs := xs.set i (X.ev fr))
      (by rw [hfs]; simpa using hr.splice k hlen)
      (fun q hq => by rcases List.mem_or_eq_of_mem_set hq with hq | rfl; exact hz q hq; exact ⟨hc1, hc2⟩)
      (fun q hq => by rcases List.mem_or_eq_of_mem_set hq with hq | rfl; exact h1 q hq; exact k1) h
    exact ⟨ys, by rw [heq']; exact r1, r2, by simpa using r3, r4, r5⟩

theorem lowE_rep (hf : RepF G fr a) (hg : Glob ng G) :
    ∀ {qs : List (Nat × Operand)} {ps : List (Nat × Opd)}, lowE ng qs = some ps → ps.length = qs.length ∧
    ∀ (i : Nat) (p : Nat × Opd) (q : Nat × Value), ps[i]? = some p → (qs.map fun (i, x) => (i, a.eval x))[i]? = some q → p.1 = q.1 ∧ RepV G (p.2.ev fr) q.2
  | [], ps, h => by simp [lowE] at h; subst h; simp
  | (i, x) :: qs, ps, h => by
    simp only [lowE] at h
    split at h
    case h_2 => cases h
    rename_i y l h1 h2
    cases h
    obtain ⟨e1, e2⟩ := lowE_rep hf hg h2
    refine ⟨by simp [e1], fun j p q x1 x2 => ?_⟩
    cases j with
    | zero => simp at x1 x2; subst x1; subst x2; exact ⟨rfl, lowX_rep hf h1 hg⟩
    | succ j => exact e2 j p q (by simpa using x1) (by simpa using x2)

theorem rep_flat {z : AV} {zv : Value} (hr : RepL G z.cells zv.cells.toList) : ∀ n, RepL G ((List.replicate n z).flatMap AV.cells) ((List.replicate n zv.cells.toList).flatten)
  | 0 => .nil G
  | n + 1 => by
    rw [List.replicate_succ, List.replicate_succ, List.flatMap_cons, List.flatten_cons]
    exact hr.append (rep_flat hr n)

/-- A new row of fixed cells, whose end may be kept for more. -/
theorem new_row (hR : Rel P ng s w G own) {xs : List AV} {z e : Nat} (hz : 0 < z) (hs : ∀ x ∈ xs, x.nt = true ∧ x.cells.length = z) (h1 : ∀ x ∈ xs, ∀ a ∈ x.cells, a.one = true) {c : Array Value} {cap : Nat}
    (hc : c.size = cap * z) (hcap : xs.length ≤ cap) (hr : RepL G (xs.flatMap AV.cells) (c.toList.take (xs.length * z))) (w' : World) {fz : Nat × Nat} (hw : w'.heap = w.heap.push (.cells c e fz)) (tag : Nat)
    (ht : tag = 0 ∨ tag = 1 ∧ cap = xs.length) {k : Nat} (hk : k = xs.length) (ho0 : w'.os = w.os ∧ w'.output = w.output := by exact ⟨rfl, rfl⟩) :
    ∃ H own', RepV H (.sl tag z xs) (.slice (some ⟨w.heap.size, 0, none⟩) k cap) ∧ Rel P ng s w' H own' ∧ G.le H := by
  have hle := hR.push_le none (fun j => if j < xs.length * z then c[j]? else none) (some c.size)
  have hsz : xs.length * z ≤ cap * z := Nat.mul_le_mul_right z hcap
  refine ⟨_, _, ?_, hR.push c e (fun j => if j < xs.length * z then c[j]? else none) (fun j v h => by split at h; exact h; cases h) w' hw ho0, hle⟩
  refine RepV.sl_mk (n := c.size) hz hs ⟨c.toList.take (xs.length * z), by rw [flat_length hs]; simp; omega, fun i v e => ?_, fun a ha => ?_, hr.mono hle⟩ hcap (by simp [Gh.push]) (by omega) (by omega) (by omega) hk
  · rw [List.getElem?_take] at e
    split at e
    · rename_i hi
      simp only [Gh.push, if_true, Nat.zero_add, if_pos hi]
      simpa using e
    · cases e
  · obtain ⟨x, hx, ha⟩ := List.mem_flatMap.1 ha
    exact h1 x hx a ha

/-- The same, with a claim on the end. -/
theorem new_row_tail (hR : Rel P ng s w G own) {xs : List AV} {z e : Nat} (hz : 0 < z) (hs : ∀ x ∈ xs, x.nt = true ∧ x.cells.length = z) (h1 : ∀ x ∈ xs, ∀ a ∈ x.cells, a.one = true) {c : Array Value} {cap : Nat}
    (hc : c.size = cap * z) (hcap : xs.length ≤ cap) (hr : RepL G (xs.flatMap AV.cells) (c.toList.take (xs.length * z))) (w' : World) (hw : w'.heap = w.heap.push (.cells c e)) {k : Nat} (hk : k = xs.length) (ho0 : w'.os = w.os ∧ w'.output = w.output := by exact ⟨rfl, rfl⟩) :
    ∃ H own', RepV H (.sl s.next z xs) (.slice (some ⟨w.heap.size, 0, none⟩) k cap) ∧ Rel P ng (s.add (.tail e)) w' H own' ∧ G.le H := by
  have hle := hR.push_le (some (xs.length * z)) (fun j => if j < xs.length * z then c[j]? else none) (some c.size)
  have hsz : xs.length * z ≤ cap * z := Nat.mul_le_mul_right z hcap
  refine ⟨_, _, ?_, hR.push_obj (.cells c e) (xs.length * z) (xs.length * z) (fun j => if j < xs.length * z then c[j]? else none) (some c.size) (.tail e)
    (fun j v h => by split at h; exact ⟨by assumption, c, e, (0, 0), rfl, h⟩; cases h) (fun n h => by cases h; exact ⟨c, e, (0, 0), rfl, rfl⟩) (fun c' t f h => by cases h; exact Nat.zero_le _) w' hw ?_ ho0, hle⟩
  · refine RepV.sl_mk (n := c.size) hz hs ⟨c.toList.take (xs.length * z), by rw [flat_length hs]; simp; omega, fun i v e => ?_, fun a ha => ?_, hr.mono hle⟩ hcap (by simp [Gh.push]) (by omega) ?_ ?_ hk
    · rw [List.getElem?_take] at e
      split at e
      · rename_i hi
        simp only [Gh.push, if_true, Nat.zero_add, if_pos hi]
        simpa using e
      · cases e
    · obtain ⟨x, hx, ha⟩ := List.mem_flatMap.1 ha
      exact h1 x hx a ha
    · intro e1; have := hR.two; omega
    · intro _; simp [Gh.push]
  · intro e' he'
    subst he'
    exact ⟨w.heap.size, xs.length * z, c, (0, 0), by simp [Gh.push], by rw [hw]; simp, by omega, ⟨fun j hj => by simp [Own.push, hj], rfl⟩⟩

theorem ok_mksl {t e : TypeId} {n z : Nat} {zz : AV} {tag : Bool} {qs : Array (Nat × Operand)} {ps : List (Nat × Opd)} (hR : Rel P ng s w G own) (hf : RepF G fr a) (ho : o.op = .buildSlice t n qs)
    (ht : P.underlying t = some (.slice e)) (hsz : szOf P e = some z) (hz : zOf P e = some zz) (hn : n * z ≤ 16777216) (hl : lowE ng qs.toList = some ps) (he : evOp fr s (.mksl tag e z zz n ps) = some (v, s')) : OpOk P ng G a w o v s' := by
  obtain ⟨zv, hz1, hz2⟩ := run_zeroValue hz w
  obtain ⟨hzr, _⟩ := ofV_rep G hz2
  simp only [evOp] at he
  split at he
  case isFalse => cases he
  rename_i hc
  obtain ⟨hnt, hzl, hz0⟩ := hc
  obtain ⟨hzc, hzo⟩ := hzr.nt_cells hnt
  have hzs : zv.cells.size = z := by rw [← hzl, hzc.1]; simp
  split at he
  case h_2 => cases he
  rename_i xs hxs
  obtain ⟨l1, l2⟩ := lowE_rep (a := a) hf hR.glob hl
  let row : Array Value := (Array.range (n * z)).map fun i => zv.cells[i % zv.cells.size]!
  have hrow : row.toList = (List.replicate n zv.cells.toList).flatten := by
    have := rep_cells zv.cells n
    rw [hzs] at this
    simp only [row]; rw [hzs]; exact this
  obtain ⟨ys, r1, r2, r3, r4, r5⟩ := fillE_rep (z := z) (qs := qs.toList.map fun (i, x) => (i, a.eval x)) (vs := row) (by simpa using l1) l2 (xs := List.replicate n zz)
    (by rw [hrow]; exact rep_flat hzc n) (fun x hx => by rw [(List.mem_replicate.1 hx).2]; exact ⟨hnt, hzl⟩) (fun x hx a ha => by rw [(List.mem_replicate.1 hx).2] at ha; exact hzo a ha) hxs
  have hlen : xs.length = n := by simpa using r3
  have hys : ys.size = n * z := by
    have := r2.1
    rw [flat_length r4, hlen] at this; simpa using this.symm
  have hrun : (execOp a.eval o).run P w = .ok (.value (.slice (some ⟨w.heap.size, 0, none⟩) n n)) { w with heap := w.heap.push (.cells ys e) } := by
    have e0 : (qs.map fun (x : Nat × Operand) => match x with | (i, x) => (i, a.eval x)).toList = qs.toList.map fun (i, x) => (i, a.eval x) := by simp
    simp only [execOp, ho, Instr.buildSlice, Sem.run_bind, run_underlying ht, Result.andThen_ok, run_sizeOf hsz]
    rw [if_neg (by omega)]
    by_cases h0 : n * z = 0
    · have hrow' : ((Array.range (n * z)).map fun x => (#[] : Array Value)[x % (#[] : Array Value).size]!) = row := by simp [row, h0]
      rw [if_pos h0]
      simp only [Sem.run_bind, Sem.run_pure, Result.andThen_ok, hrow', e0, r1]
      rfl
    · have hrow' : ((Array.range (n * z)).map fun x => zv.cells[x % zv.cells.size]!) = row := rfl
      rw [if_neg h0]
      simp only [Sem.run_bind, Sem.run_pure, hz1, Result.andThen_ok, hrow', e0, r1]
      rfl
  cases tag with
  | true =>
    cases he
    obtain ⟨H, own', k1, k2, k3⟩ := new_row_tail hR (e := e) hz0 r4 r5 (c := ys) (cap := n) hys (by omega) (by rw [List.take_of_length_le (by rw [hlen]; simp; omega)]; exact r2) { w with heap := w.heap.push (.cells ys e) } rfl (k := n) hlen.symm
    exact ⟨_, _, H, own', .inl hrun, k1, k2, k3⟩
  | false =>
    cases he
    obtain ⟨H, own', k1, k2, k3⟩ := new_row hR (e := e) hz0 r4 r5 (c := ys) (cap := n) hys (by omega) (by rw [List.take_of_length_le (by rw [hlen]; simp; omega)]; exact r2) { w with heap := w.heap.push (.cells ys e) } rfl 1 (.inr ⟨rfl, hlen.symm⟩) (k := n) hlen.symm
    exact ⟨_, _, H, own', .inl hrun, k1, k2, k3⟩

end
end Go.Am

namespace Go.Am

section
variable {P : Program} {ng fl : Nat} {G : Gh} {own : Own} {fr : List AV} {a : Act} {w : World} {s s' : St} {o : Oper} {io : IOp} {v : AV}

theorem growBy_le (need : Nat) : ∀ (r c : Nat), c ≤ need + (need + 768) / 4 → Builtin.growBy need r c ≤ need + (need + 768) / 4
  | 0, c, h => h
  | r + 1, c, h => by
    simp only [Builtin.growBy]
    split
    · exact h
    · exact growBy_le need r _ (by omega)
theorem next_le {need cap : Nat} (h : cap < need) : Builtin.nextslicecap need cap ≤ 2 * need + 200 := by
  unfold Builtin.nextslicecap
  split
  · omega
  · split
    · omega
    · have := growBy_le need 4 cap (by omega); omega

/-- The types of an append. -/
structure AppIn (P : Program) (t u e sz by_ : Nat) (zv : Value) : Prop where
  ht : P.underlying t = some (.slice e)
  hu : srcOf P u = true
  hsz : szOf P e = some sz
  hby : byOf P e = some by_
  hz : ∀ w, (zeroValue e).run P w = .ok zv w
  hzs : zv.cells.size = sz
  pos : 0 < sz

theorem src_not_int {u : TypeId} (h : srcOf P u = true) (w : World) : ((do Pure.pure ((← underlying u) matches .int _)) : Sem Bool).run P w = .ok false w := by
  simp only [srcOf] at h
  cases hu : P.underlying u with
  | none => simp [hu] at h
  | some d =>
    simp only [hu] at h
    simp only [Sem.run_bind, run_underlying hu, Result.andThen_ok, Sem.run_pure]
    cases d <;> simp at h <;> rfl

theorem src_kind {u : TypeId} (h : srcOf P u = true) : (∃ e, P.underlying u = some (.slice e)) ∨ P.underlying u = some .string := by
  simp only [srcOf] at h
  cases hu : P.underlying u with
  | none => simp [hu] at h
  | some d =>
    simp only [hu] at h
    cases d <;> simp at h
    · exact .inr rfl
    · exact .inl ⟨_, rfl⟩

theorem zeroCells_size (z : Array Value) (n : Nat) : (Builtin.zeroCells z n).size = n * z.size := by simp [Builtin.zeroCells]

/-- There is room. -/
theorem append_room {t u e sz by_ : Nat} {X zv : Value} {xs ys : List AV} {p : Option Addr} {cap : Nat} (h : AppIn P t u e sz by_ zv) {us : List Value} {w' : World}
    (hl : (Builtin.lenOf X).run P w = .ok ys.length w) (hn : (Builtin.firstCells sz ys.length X).run P w = .ok us.toArray w) (hroom : xs.length + ys.length ≤ cap)
    (hst : match p with | some a => (storeCells (a.add (xs.length * sz)) us).run P w = .ok () w' | none => w' = w) (ty : TypeId) :
    (Builtin.append_ #[t, u] ty #[.slice p xs.length cap, X]).run P w = .ok (.slice p (xs.length + ys.length) cap) w' := by
  have hd := src_kind h.hu
  rcases hd with ⟨e', hd⟩ | hd
  all_goals
    simp only [Builtin.append_, List.getElem?_toArray, List.getElem?_cons_zero, List.getElem?_cons_succ, Sem.run_bind, run_underlying h.ht, Result.andThen_ok, run_sizeOf h.hsz, run_underlying hd, Sem.run_pure, hl, Bool.false_eq_true, if_false]
    rw [if_pos hroom]
    simp only [Sem.run_bind, Bool.not_false, if_true, hn, Result.andThen_ok]
    cases p with
    | none => simp only at hst; subst hst; rfl
    | some a => simp only [Sem.run_bind, hst, Result.andThen_ok]; rfl

/-- There is no room: a new row. -/
theorem append_grow {t u e sz by_ : Nat} {S X zv : Value} {xs ys : List AV} {p : Option Addr} {cap : Nat} (h : AppIn P t u e sz by_ zv) (hb : (xs.length + ys.length) * (by_ + 1) ≤ maxL) (h0 : 1 ≤ xs.length + ys.length) (hS : S = .slice p xs.length cap) {vs us : List Value}
    (hl : (Builtin.lenOf X).run P w = .ok ys.length w) (ho : (Builtin.firstCells sz xs.length S).run P { w with drawn := w.drawn + 1 } = .ok vs.toArray { w with drawn := w.drawn + 1 })
    (hn : (Builtin.firstCells sz ys.length X).run P { w with drawn := w.drawn + 1 } = .ok us.toArray { w with drawn := w.drawn + 1 }) (hvs : vs.length = xs.length * sz) (hus : us.length = ys.length * sz) (hroom : ¬ xs.length + ys.length ≤ cap) (ty : TypeId) :
    ∃ (rest : List Value) (newCap : Nat) (w1 : World), (w1.os = w.os ∧ w1.output = w.output) ∧ xs.length + ys.length ≤ newCap ∧ (vs ++ us ++ rest).length = newCap * sz ∧
      (Builtin.append_ #[t, u] ty #[S, X]).run P w = .ok (.slice (some ⟨w.heap.size, 0, none⟩) (xs.length + ys.length) newCap) { w1 with heap := w.heap.push (.cells (vs ++ us ++ rest).toArray e) } := by
  have hd := src_kind h.hu
  obtain ⟨ti, hti, hby⟩ : ∃ ti, P.info? e = some ti ∧ ti.bytes = by_ := by
    have := h.hby
    simp only [byOf, Option.map_eq_some_iff] at this
    exact this
  have hnl : xs.length + ys.length ≤ maxL := Nat.le_trans (Nat.le_mul_of_pos_right _ (by omega)) hb
  have hbl : by_ + 1 ≤ maxL := Nat.le_trans (Nat.le_mul_of_pos_left _ (by omega)) hb
  have hnx := next_le (Nat.lt_of_not_le hroom)
  have hmul : Builtin.nextslicecap (xs.length + ys.length) cap * by_ ≤ 2 ^ 48 := by
    have e1 : Builtin.nextslicecap (xs.length + ys.length) cap * by_ ≤ (2 * (xs.length + ys.length) + 200) * by_ := Nat.mul_le_mul_right _ hnx
    have e2 : (2 * (xs.length + ys.length) + 200) * by_ = 2 * ((xs.length + ys.length) * by_) + 200 * by_ := by rw [Nat.add_mul, Nat.mul_assoc]
    have e3 : (xs.length + ys.length) * by_ ≤ maxL := Nat.le_trans (Nat.mul_le_mul_left _ (by omega)) hb
    simp only [maxL] at *
    omega
  let q : Question := .appendCap (xs.length + ys.length) cap e
  let newCap := q.cut (w.tape w.drawn q)
  let w1 : World := { w with drawn := w.drawn + 1 }
  have hcap : xs.length + ys.length ≤ newCap := by simp only [newCap, q, Question.cut]; omega
  refine ⟨(Builtin.zeroCells zv.cells (newCap - (xs.length + ys.length))).toList, newCap, w1, ⟨rfl, rfl⟩, hcap, ?_, ?_⟩
  · simp only [List.length_append, Array.length_toList, zeroCells_size, h.hzs, hvs, hus]
    rw [← Nat.add_mul, ← Nat.add_mul]; congr 1; omega
  · subst hS
    have hch : (choose q).run P w = .ok newCap w1 := by rw [run_choose]; rfl
    have o1 : (Builtin.firstCells sz xs.length (.slice p xs.length cap)).run P w1 = .ok vs.toArray w1 := ho
    have n1 : (Builtin.firstCells sz ys.length X).run P w1 = .ok us.toArray w1 := hn
    have z1 := h.hz w1
    have hti' : (typeInfo e).run P w = .ok ti w := by simp [typeInfo, hti]
    have hti1 : (typeInfo e).run P w1 = .ok ti w1 := by simp [typeInfo, hti]
    have hmax : ¬ (((xs.length + ys.length : Nat) : Int) > IntKind.i64.max ∧ (False ∨ ti.bytes = 0)) := by
      intro hh; have := hh.1; simp only [maxL] at hnl; simp [IntKind.max, IntKind.signed, IntKind.bits] at this; omega
    have hmul' : ¬ (Builtin.nextslicecap (xs.length + ys.length) cap * ti.bytes > 2 ^ 48) := by rw [hby]; omega
    rcases hd with ⟨e', hd⟩ | hd
    all_goals
      simp only [Builtin.append_, List.getElem?_toArray, List.getElem?_cons_zero, List.getElem?_cons_succ, Sem.run_bind, run_underlying h.ht, Result.andThen_ok, run_sizeOf h.hsz, run_underlying hd, Sem.run_pure, hl, Bool.false_eq_true, if_false]
      rw [if_neg hroom]
      simp only [Sem.run_bind, hti', Result.andThen_ok]
      rw [if_neg hmax]
      simp only [Sem.run_bind, hti', Result.andThen_ok]
      rw [if_neg hmul']
      simp only [Sem.run_bind, q] at hch ⊢
      rw [hch]
      simp only [Result.andThen_ok, hti1, run_askRoom, o1, Bool.not_false, if_true, n1, z1, newRow, Sem.run_pure, run_newObj]
      simp
      have e3 : ((vs ++ us).toArray ++ Builtin.zeroCells zv.cells (newCap - (xs.length + ys.length))) = (vs ++ (us ++ (Builtin.zeroCells zv.cells (newCap - (xs.length + ys.length))).toList)).toArray := by
        apply Array.ext'; simp
      first | (rw [e3]; rfl) | (refine ⟨rfl, ?_⟩; rw [e3]; rfl) | rfl


/-- A new growing object. -/
theorem new_arr (hR : Rel P ng s w G own) {xs : List AV} {z e f : Nat} (hz : 0 < z) (hs : ∀ x ∈ xs, x.nt = true ∧ x.cells.length = z) (h1 : ∀ x ∈ xs, ∀ a ∈ x.cells, a.one = true) {c : Array Value} {cap : Nat}
    (hc : c.size = cap * z) (hcap : xs.length ≤ cap) (hfl : f ≤ xs.length * z) (hr : RepL G (xs.flatMap AV.cells) (c.toList.take (xs.length * z))) (w' : World) (hw : w'.heap = w.heap.push (.cells c e)) {k : Nat} (hk : k = xs.length) (ho0 : w'.os = w.os ∧ w'.output = w.output := by exact ⟨rfl, rfl⟩) :
    ∃ H own', RepV H (.hsl s.next 0 xs.length z) (.slice (some ⟨w.heap.size, 0, none⟩) k cap) ∧ Rel P ng (s.add (.arr f z (xs.flatMap AV.cells))) w' H own' ∧ G.le H := by
  have hle := hR.push_le (some 0) (fun j => if j < f then c[j]? else none) (some c.size)
  have hsz : xs.length * z ≤ cap * z := Nat.mul_le_mul_right z hcap
  have hfl' := flat_length hs
  refine ⟨_, _, ?_, hR.push_obj (.cells c e) f 0 (fun j => if j < f then c[j]? else none) (some c.size) (.arr f z (xs.flatMap AV.cells))
    (fun j v h => by split at h; exact ⟨by assumption, c, e, (0, 0), rfl, h⟩; cases h) (fun n h => by cases h; exact ⟨c, e, (0, 0), rfl, rfl⟩) (fun c' t f h => by cases h; exact Nat.zero_le _) w' hw ?_ ho0, hle⟩
  · subst hk
    have := RepV.hsl (G := G.push w.heap.size (some (s.next, 0)) (fun j => if j < f then c[j]? else none) (some c.size)) s.next 0 xs.length z w.heap.size 0 cap c.size hz (by simp [Gh.push]) hcap (by simp [Gh.push]) (by omega)
    simpa using this
  · intro e' he'
    subst he'
    refine ⟨w.heap.size, 0, c, e, (0, 0), by simp [Gh.push], by rw [hw]; simp, by rw [hfl']; omega, ?_, fun a ha => ?_, fun j hj => by simp only [Own.push, if_true]; rw [if_pos (by omega)], fun j a b d => ?_⟩
    · rw [List.drop_zero, hfl']; exact hr.mono hle
    · obtain ⟨x, hx, ha⟩ := List.mem_flatMap.1 ha
      exact h1 x hx a ha
    · have : j < c.size := by omega
      exact ⟨c[j], by simp only [Gh.push, if_true]; rw [if_pos (by omega)]; simp [this]⟩

end
end Go.Am

/- Append, continued. Append to a growing object, and all appends. Append and make, as operations; then all operations. All operations. What an operation looks at. -/
import Derived.Test.YtjacmplknlploaaGreatDoorW05
import Derived.Laws.Runes
set_option linter.all false
namespace Go.Am

section
variable {P : Program} {ng fl : Nat} {G : Gh} {own : Own} {fr : List AV} {a : Act} {w : World} {s s' : St} {o : Oper} {io : IOp} {v : AV}

/-- What is given for what has been appended. -/
def appRes (flag e sz f : Nat) (zs : List AV) (s : St) : AV × St :=
  match flag with
  | 0 => (.sl 0 sz zs, s)
  | 1 => (.sl s.next sz zs, s.add (.tail e))
  | _ => (.hsl s.next 0 zs.length sz, s.add (.arr f sz (zs.flatMap AV.cells)))

theorem grow_result {t u e sz by_ flag f : Nat} {zv S X : Value} {xs ys : List AV} {p : Option Addr} {cap : Nat} {ag : Bool} {A B : AV} {s1 : St} (h : AppIn P t u e sz by_ zv) (hR : Rel P ng s w G own) (hR1 : Rel P ng s1 w G own)
    (rA : RepV G A S) (hA : elems s.objs ag sz A = some xs) (hns : ∀ b, A ≠ .str b) (rB : RepV G B X) (hB : elems s.objs ag sz B = some ys) (hS : S = .slice p xs.length cap) (hroom : ¬ xs.length + ys.length ≤ cap)
    (hb : (xs.length + ys.length) * (by_ + 1) ≤ maxL) (h0 : ys ≠ []) (hf : f ≤ xs.length * sz) (ty : TypeId) :
    ∃ uu w' H own', (Builtin.append_ #[t, u] ty #[S, X]).run P w = .ok uu w' ∧ RepV H (appRes flag e sz f (xs ++ ys) s1).1 uu ∧ Rel P ng (appRes flag e sz f (xs ++ ys) s1).2 w' H own' ∧ G.le H := by
  let wd : World := { w with drawn := w.drawn + 1 }
  have hRd : Rel P ng s wd G own := hR.of_heap rfl
  obtain ⟨⟨us0, _, u2, _⟩, _, _⟩ := src_rep (P := P) hR h.pos rB hB
  obtain ⟨⟨us, u1, _, u3⟩, y4, y5⟩ := src_rep (P := P) hRd h.pos rB hB
  obtain ⟨⟨vs, v1, _, v3⟩, x4, x5, _⟩ := elems_rep (P := P) hRd h.pos rA hA hns
  have hus : us.length = ys.length * sz := by rw [← u1.1, flat_length y4]
  have hvs : vs.length = xs.length * sz := by rw [← v1.1, flat_length x4]
  have hn := u3 ys.length (Nat.le_refl _)
  have ho := v3 xs.length (Nat.le_refl _)
  rw [List.take_of_length_le (by omega)] at hn ho
  have hy1 : 1 ≤ ys.length := by cases ys with | nil => exact absurd rfl h0 | cons => simp
  obtain ⟨rest, newCap, w1, hw1, hcap, hlen, hrun⟩ := append_grow h hb (by omega) hS u2 ho hn hvs hus hroom ty
  have hz4 : ∀ x ∈ xs ++ ys, x.nt = true ∧ x.cells.length = sz := by
    intro x hx; rcases List.mem_append.1 hx with hx | hx; exact x4 x hx; exact y4 x hx
  have hz5 : ∀ x ∈ xs ++ ys, ∀ a ∈ x.cells, a.one = true := by
    intro x hx; rcases List.mem_append.1 hx with hx | hx; exact x5 x hx; exact y5 x hx
  have hzl : (xs ++ ys).length = xs.length + ys.length := by simp
  have hr : RepL G ((xs ++ ys).flatMap AV.cells) ((vs ++ us ++ rest).toArray.toList.take ((xs ++ ys).length * sz)) := by
    have hA1 : (xs ++ ys).length * sz = (vs ++ us).length := by rw [hzl, List.length_append, hvs, hus, Nat.add_mul]
    rw [hA1, List.flatMap_append, List.take_append_of_le_length (Nat.le_refl _), List.take_length]
    exact v1.append u1
  have hsz : (vs ++ us ++ rest).toArray.size = newCap * sz := by simpa using hlen
  have hf' : f ≤ (xs ++ ys).length * sz := by rw [hzl, Nat.add_mul]; omega
  have hcap' : (xs ++ ys).length ≤ newCap := by omega
  match flag with
  | 0 =>
    obtain ⟨H, own', k1, k2, k3⟩ := new_row hR1 (e := e) h.pos hz4 hz5 hsz hcap' hr { w1 with heap := w.heap.push (.cells (vs ++ us ++ rest).toArray e) } rfl 0 (.inl rfl) hzl.symm hw1
    exact ⟨_, _, H, own', hrun, k1, k2, k3⟩
  | 1 =>
    obtain ⟨H, own', k1, k2, k3⟩ := new_row_tail hR1 (e := e) h.pos hz4 hz5 hsz hcap' hr { w1 with heap := w.heap.push (.cells (vs ++ us ++ rest).toArray e) } rfl hzl.symm hw1
    exact ⟨_, _, H, own', hrun, k1, k2, k3⟩
  | n + 2 =>
    obtain ⟨H, own', k1, k2, k3⟩ := new_arr hR1 (e := e) h.pos hz4 hz5 hsz hcap' hf' hr { w1 with heap := w.heap.push (.cells (vs ++ us ++ rest).toArray e) } rfl hzl.symm hw1
    exact ⟨_, _, H, own', hrun, k1, k2, k3⟩

/-- In place, behind a fixed row. -/
theorem room_sl {t u e sz by_ flag tg : Nat} {zv X : Value} {xs ys : List AV} {b m cap n : Nat} {ag : Bool} {B : AV} (h : AppIn P t u e sz by_ zv) (hR : Rel P ng s w G own)
    (hx4 : ∀ x ∈ xs, x.nt = true ∧ x.cells.length = sz) (hfx : Fixed G b m (xs.flatMap AV.cells)) (hbz : G.bsz b = some n) (hn : m + cap * sz ≤ n) (htg : G.loc tg = some (b, m + xs.length * sz))
    (hlk : look s.objs tg = some (.tail e)) (rB : RepV G B X) (hB : elems s.objs ag sz B = some ys) (hroom : xs.length + ys.length ≤ cap) (ty : TypeId) :
    ∃ uu w' H own', (Builtin.append_ #[t, u] ty #[.slice (some ⟨b, m, none⟩) xs.length cap, X]).run P w = .ok uu w' ∧ RepV H (appRes flag e sz (xs.length * sz) (xs ++ ys) (s.del tg)).1 uu ∧ Rel P ng (appRes flag e sz (xs.length * sz) (xs ++ ys) (s.del tg)).2 w' H own' ∧ G.le H := by
  obtain ⟨⟨us, u1, u2, u3⟩, y4, y5⟩ := src_rep (P := P) hR h.pos rB hB
  have hus : us.length = ys.length * sz := by rw [← u1.1, flat_length y4]
  have hn3 := u3 ys.length (Nat.le_refl _)
  rw [List.take_of_length_le (by omega)] at hn3
  obtain ⟨b', e0, c, f0, k1, k2, k3, k4, k5⟩ := hR.objL hlk htg
  rw [htg] at k1; cases k1
  obtain ⟨c2, ty2, f2, j1, j2⟩ := hR.bsz _ _ hbz
  rw [k2] at j1; cases j1
  have hone := u1.one_cell (fun a ha => by obtain ⟨x, hx, ha⟩ := List.mem_flatMap.1 ha; exact y5 x hx a ha)
  have hmul : (xs.length + ys.length) * sz ≤ cap * sz := Nat.mul_le_mul_right sz hroom
  have hmul2 : (xs.length + ys.length) * sz = xs.length * sz + ys.length * sz := Nat.add_mul _ _ _
  have hsp : m + xs.length * sz + us.length ≤ c.toList.length := by simp; omega
  have hst := run_storeCells_atF P b (m + xs.length * sz) e f0 us 0 c w k2 (by have := hR.frz b _ tg c e f0 (k4 _ (Nat.le_refl _)) k2; omega) (by simp at hsp; omega) hone
  rw [Nat.add_zero] at hst
  have hrow : c.toList.take (m + xs.length * sz) ++ us ++ c.toList.drop (m + xs.length * sz + us.length) = Am.splice c.toList (m + xs.length * sz) us := rfl
  rw [hrow] at hst
  have hrun := append_room (w := w) h (p := some ⟨b, m, none⟩) (xs := xs) (ys := ys) u2 hn3 hroom (by simp only [add_none]; exact hst) ty
  have hsz : (Am.splice c.toList (m + xs.length * sz) us).toArray.size = c.size := by simp [splice_length hsp]
  have hget : ∀ i : Nat, (Am.splice c.toList (m + xs.length * sz) us).toArray[i]? = if m + xs.length * sz ≤ i ∧ i < m + xs.length * sz + us.length then us[i - (m + xs.length * sz)]? else c[i]? := by
    intro i; rw [List.getElem?_toArray, splice_get hsp]; simp
  have hw' : (w.setRow b (Am.splice c.toList (m + xs.length * sz) us).toArray).heap[b]? = some (.cells (Am.splice c.toList (m + xs.length * sz) us).toArray e f0) := setRow_heap w b c _ e f0 k2
  have tn : Turn w (w.setRow b (Am.splice c.toList (m + xs.length * sz) us).toArray) own tg := Turn.of_setRow k2 hsz (fun j hj => by
    rw [hget, if_neg]; intro hh; exact hj (k4 j hh.1))
  have hz4 : ∀ x ∈ xs ++ ys, x.nt = true ∧ x.cells.length = sz := by
    intro x hx; rcases List.mem_append.1 hx with hx | hx; exact hx4 x hx; exact y4 x hx
  have hzl : (xs ++ ys).length = xs.length + ys.length := by simp
  have hzm : (xs ++ ys).length * sz = xs.length * sz + ys.length * sz := by rw [hzl, Nat.add_mul]
  have hblt : b < w.heap.size := (Array.getElem?_eq_some_iff.1 k2).1
  obtain ⟨vs, q1, q2, q3, q4⟩ := hfx
  have hvs : vs.length = xs.length * sz := by rw [q1, flat_length hx4]
  have hcells : ∀ a ∈ (xs ++ ys).flatMap AV.cells, a.one = true := by
    intro a ha
    rw [List.flatMap_append] at ha
    rcases List.mem_append.1 ha with ha | ha
    · exact q3 a ha
    · obtain ⟨x, hx, ha⟩ := List.mem_flatMap.1 ha; exact y5 x hx a ha
  have hnew : ∀ i u, us[i]? = some u → (Am.splice c.toList (m + xs.length * sz) us).toArray[m + xs.length * sz + i]? = some u := by
    intro i u hu
    have hi : i < us.length := (List.getElem?_eq_some_iff.1 hu).1
    rw [hget, if_pos ⟨by omega, by omega⟩, show m + xs.length * sz + i - (m + xs.length * sz) = i by omega]; exact hu
  -- fixed cells, old and new
  let im : Nat → Nat → Option Value := fun b' j => if b' = b ∧ m + xs.length * sz ≤ j ∧ j < m + xs.length * sz + us.length then (Am.splice c.toList (m + xs.length * sz) us).toArray[j]? else none
  have himm : ∀ b' j v, own b' j = some tg → im b' j = some v → ∃ c' ty' f', (w.setRow b (Am.splice c.toList (m + xs.length * sz) us).toArray).heap[b']? = some (.cells c' ty' f') ∧ c'[j]? = some v := by
    intro b' j v _ hv
    simp only [im] at hv
    split at hv
    · rename_i hc; obtain ⟨rfl, _⟩ := hc; exact ⟨_, e, f0, hw', hv⟩
    · cases hv
  have hfix : ∀ (x : Option (Nat × Nat)), Fixed (G.turn own tg s.next im x) b m ((xs ++ ys).flatMap AV.cells) := by
    intro x
    have hle := hR.turn_le tg im x
    refine ⟨vs ++ us, by rw [List.length_append, hvs, hus, flat_length hz4, hzl, Nat.add_mul], fun i v hv => ?_, hcells, by rw [List.flatMap_append]; exact (q4.append u1).mono hle⟩
    rw [List.getElem?_append] at hv
    split at hv
    · exact hle.imm _ _ _ (q2 i v hv)
    · rename_i hi
      have hi2 : i - vs.length < us.length := (List.getElem?_eq_some_iff.1 hv).1
      have ho := k4 (m + i) (by omega)
      simp only [Gh.turn, if_pos ho]
      have h9 := hnew (i - vs.length) v hv
      rw [show m + xs.length * sz + (i - vs.length) = m + i by omega] at h9
      have h8 : im b (m + i) = (Am.splice c.toList (m + xs.length * sz) us).toArray[m + i]? := by
        show (if b = b ∧ m + xs.length * sz ≤ m + i ∧ m + i < m + xs.length * sz + us.length then _ else none) = _
        rw [if_pos ⟨rfl, by omega, by omega⟩]
      exact h8.trans h9
  match flag with
  | 0 =>
    refine ⟨_, _, G.turn own tg s.next im none, own.turn tg s.next fun _ _ => false, hrun, ?_, ?_, hR.turn_le tg im none⟩
    · exact RepV.sl_mk (n := c.size) h.pos hz4 (hfix none) (by omega) (by simpa [Gh.turn, j2] using hbz) (by omega) (by omega) (by omega) hzl.symm
    · exact hR.turn hlk tn im none (fun _ _ => false) none (fun b' j v h1 h2 => ⟨rfl, himm b' j v h1 h2⟩) (fun b' i j v _ _ _ h => by cases h) (fun b' i j _ h _ => by cases h) (fun p h => by cases h) (fun h => by cases h) (fun x h => by cases h)
  | 1 =>
    have hrel := hR.turn hlk tn im (some (b, m + (xs ++ ys).length * sz)) (fun b' j => decide (b' = b ∧ m + (xs ++ ys).length * sz ≤ j)) (some (.tail e))
      (fun b' j v h1 h2 => ⟨(by
        have h3 := h2
        simp only [im] at h3
        split at h3
        · rename_i hc; exact decide_eq_false (fun hh => by have := hh.2; omega)
        · cases h3), himm b' j v h1 h2⟩)
      (fun b' i j v _ h2 _ h4 => by
        simp only [im] at h2
        split at h2
        · rename_i hc
          have := of_decide_eq_true h4
          omega
        · cases h2)
      (fun b' i j _ h1 h2 => by have := of_decide_eq_true h1; exact decide_eq_true ⟨this.1, by omega⟩) (fun p hp => by cases hp; exact hblt) (fun _ => rfl)
      (fun x hx => by
        cases hx
        refine ⟨b, m + (xs ++ ys).length * sz, _, f0, by simp [Gh.turn], hw', by rw [hsz]; omega, ⟨fun j hj => ?_, k5⟩⟩
        have ho := k4 j (by omega)
        simp only [Own.turn, if_pos ho]
        exact if_pos (decide_eq_true ⟨trivial, hj⟩))
    refine ⟨_, _, _, _, hrun, ?_, hrel, hR.turn_le tg im _⟩
    exact RepV.sl_mk (n := c.size) h.pos hz4 (hfix _) (by omega) (by simpa [Gh.turn, j2] using hbz) (by omega) (fun e1 => by have := hR.two; simp [St.del] at e1; omega) (fun _ => by simp [Gh.turn, St.del]) hzl.symm
  | k + 2 =>
    have hrel := hR.turn hlk tn (fun _ _ => none) (some (b, m)) (fun b' j => decide (b' = b ∧ m + xs.length * sz ≤ j)) (some (.arr (xs.length * sz) sz ((xs ++ ys).flatMap AV.cells)))
      (fun b' j v h1 h2 => by cases h2) (fun b' i j v _ h2 _ _ => by cases h2)
      (fun b' i j _ h1 h2 => by have := of_decide_eq_true h1; exact decide_eq_true ⟨this.1, by omega⟩) (fun p hp => by cases hp; exact hblt) (fun _ => rfl)
      (fun x hx => by
        cases hx
        have hle := hR.turn_le tg (fun _ _ => none) (some (b, m))
        refine ⟨b, m, _, e, f0, by simp [Gh.turn], hw', by rw [hsz, flat_length hz4, hzl]; omega, ?_, hcells, fun j hj => ?_, fun j h1 h2 h3 => ?_⟩
        · have e9 : (((Am.splice c.toList (m + xs.length * sz) us).toArray.toList.drop m).take ((xs ++ ys).flatMap AV.cells).length) = vs ++ us := by
            apply List.ext_getElem?
            intro i
            rw [flat_length hz4, hzl, List.getElem?_take, List.getElem?_drop, List.toList_toArray, splice_get hsp, List.getElem?_append]
            by_cases h1 : i < vs.length
            · rw [if_pos (by omega), if_pos h1, if_neg (by omega)]
              have hv : vs[i]? = some vs[i] := by simp [h1]
              obtain ⟨c9, t9, f9, z1, z2⟩ := hR.imm _ _ _ (q2 i vs[i] hv)
              rw [k2] at z1; cases z1
              rw [hv, Array.getElem?_toList]; exact z2
            · by_cases h2 : i < vs.length + us.length
              · rw [if_pos (by omega), if_neg h1, if_pos (by omega)]
                congr 1; omega
              · rw [if_neg (by omega), if_neg h1]
                simp; omega
          rw [e9, List.flatMap_append]
          exact (q4.append u1).mono hle
        · have ho := k4 j hj
          simp only [Own.turn, if_pos ho]
          exact if_pos (decide_eq_true ⟨trivial, hj⟩)
        · have hv : vs[j - m]? = some vs[j - m] := by simp
          have := hle.imm _ _ _ (q2 (j - m) _ hv)
          rw [show m + (j - m) = j by omega] at this
          exact ⟨_, this⟩)
    refine ⟨_, _, _, _, hrun, ?_, hrel, hR.turn_le tg _ _⟩
    have := RepV.hsl (G := G.turn own tg s.next (fun _ _ => none) (some (b, m))) (s.del tg).next 0 (xs ++ ys).length sz b m cap c.size h.pos (by simp [Gh.turn, St.del]) (by omega) (by simpa [Gh.turn, j2] using hbz) (by omega)
    simp only [Nat.zero_mul, Nat.add_zero, hzl] at this
    show RepV _ (.hsl (s.del tg).next 0 (xs ++ ys).length sz) _
    rw [hzl]
    exact this

end
end Go.Am

namespace Go.Am

section
variable {P : Program} {ng fl : Nat} {G : Gh} {own : Own} {fr : List AV} {a : Act} {w : World} {s s' : St} {o : Oper} {io : IOp} {v : AV}

theorem room_arr {t u e sz by_ id off len f y o cap n b : Nat} {zv X : Value} {cs ys : List AV} {ag : Bool} {B : AV} (h : AppIn P t u e sz by_ zv) (hR : Rel P ng s w G own)
    (hlk : look s.objs id = some (.arr f y cs)) (hloc : G.loc id = some (b, o)) (hbz : G.bsz b = some n) (hn : o + off * sz + cap * sz ≤ n) (hf1 : f ≤ (off + len) * sz) (hf2 : (off + len) * sz ≤ cs.length)
    (hag : ag = true ∨ sz = 1) (rB : RepV G B X) (hB : elems s.objs ag sz B = some ys) (hroom : len + ys.length ≤ cap) (ty : TypeId) :
    ∃ uu w' H own', (Builtin.append_ #[t, u] ty #[.slice (some ⟨b, o + off * sz, none⟩) len cap, X]).run P w = .ok uu w' ∧ RepV H (.hsl s.next 0 (len + ys.length) sz) uu ∧
      Rel P ng ((s.del id).add (.arr (f - off * sz) sz ((rows ag sz len (cs.drop (off * sz)) ++ ys).flatMap AV.cells))) w' H own' ∧ G.le H := by
  obtain ⟨⟨us, u1, u2, u3⟩, y4, y5⟩ := src_rep (P := P) hR h.pos rB hB
  have hus : us.length = ys.length * sz := by rw [← u1.1, flat_length y4]
  have hn3 := u3 ys.length (Nat.le_refl _)
  rw [List.take_of_length_le (by omega)] at hn3
  obtain ⟨b', o', c, ty2, f0, k1, k2, k3, k4, k5, k6, k7⟩ := hR.objL hlk hloc
  rw [hloc] at k1; cases k1
  obtain ⟨c2, ty3, f2, j1, j2⟩ := hR.bsz _ _ hbz
  rw [k2] at j1; cases j1
  have hone := u1.one_cell (fun a ha => by obtain ⟨x, hx, ha⟩ := List.mem_flatMap.1 ha; exact y5 x hx a ha)
  have hmul : (len + ys.length) * sz ≤ cap * sz := Nat.mul_le_mul_right sz hroom
  have hmul2 : (len + ys.length) * sz = len * sz + ys.length * sz := Nat.add_mul _ _ _
  have hmul3 : (off + len) * sz = off * sz + len * sz := Nat.add_mul _ _ _
  have hd1 : ∀ a ∈ cs.drop (off * sz), a.one = true := fun a ha => k5 a (List.mem_of_mem_drop ha)
  obtain ⟨r1, r2, r3⟩ := rows_flat (ag := ag) (n := len) (cs := cs.drop (off * sz)) (by simp; omega) hd1 h.pos hag
  generalize hxs : rows ag sz len (cs.drop (off * sz)) = xs at *
  have hsp : o + off * sz + len * sz + us.length ≤ c.toList.length := by simp; omega
  have hst := run_storeCells_atF P b (o + off * sz + len * sz) ty2 f0 us 0 c w k2 (by have := hR.frz b _ id c ty2 f0 (k6 (o + off * sz + len * sz) (by omega)) k2; omega) (by simp at hsp; omega) hone
  rw [Nat.add_zero] at hst
  have hrow : c.toList.take (o + off * sz + len * sz) ++ us ++ c.toList.drop (o + off * sz + len * sz + us.length) = Am.splice c.toList (o + off * sz + len * sz) us := rfl
  rw [hrow] at hst
  have hrun := append_room (w := w) h (p := some ⟨b, o + off * sz, none⟩) (xs := xs) (ys := ys) (cap := cap) u2 hn3 (by rw [r1]; exact hroom) (by simp only [add_none, r1]; exact hst) ty
  rw [r1] at hrun
  have hsz : (Am.splice c.toList (o + off * sz + len * sz) us).toArray.size = c.size := by simp [splice_length hsp]
  have hget : ∀ i : Nat, (Am.splice c.toList (o + off * sz + len * sz) us).toArray[i]? = if o + off * sz + len * sz ≤ i ∧ i < o + off * sz + len * sz + us.length then us[i - (o + off * sz + len * sz)]? else c[i]? := by
    intro i; rw [List.getElem?_toArray, splice_get hsp]; simp
  have hw' : (w.setRow b (Am.splice c.toList (o + off * sz + len * sz) us).toArray).heap[b]? = some (.cells (Am.splice c.toList (o + off * sz + len * sz) us).toArray ty2 f0) := setRow_heap w b c _ ty2 f0 k2
  have tn : Turn w (w.setRow b (Am.splice c.toList (o + off * sz + len * sz) us).toArray) own id := Turn.of_setRow k2 hsz (fun j hj => by
    rw [hget, if_neg]; intro hh; exact hj (k6 j (by omega)))
  have hz4 : ∀ x ∈ xs ++ ys, x.nt = true ∧ x.cells.length = sz := by
    intro x hx; rcases List.mem_append.1 hx with hx | hx; exact r2 x hx; exact y4 x hx
  have hzl : (xs ++ ys).length = len + ys.length := by simp [r1]
  have hfl : ((xs ++ ys).flatMap AV.cells).length = len * sz + ys.length * sz := by rw [flat_length hz4, hzl, Nat.add_mul]
  have hblt : b < w.heap.size := (Array.getElem?_eq_some_iff.1 k2).1
  have hcells : ∀ a ∈ (xs ++ ys).flatMap AV.cells, a.one = true := by
    intro a ha
    rw [List.flatMap_append, r3] at ha
    rcases List.mem_append.1 ha with ha | ha
    · exact hd1 a (List.mem_of_mem_take ha)
    · obtain ⟨x, hx, ha⟩ := List.mem_flatMap.1 ha; exact y5 x hx a ha
  have hrel := hR.turn hlk tn (fun _ _ => none) (some (b, o + off * sz)) (fun b' j => decide (b' = b ∧ o + off * sz + (f - off * sz) ≤ j)) (some (.arr (f - off * sz) sz ((xs ++ ys).flatMap AV.cells)))
    (fun b' j v h1 h2 => by cases h2) (fun b' i j v _ h2 _ _ => by cases h2)
    (fun b' i j _ h1 h2 => by have := of_decide_eq_true h1; exact decide_eq_true ⟨this.1, by omega⟩) (fun p hp => by cases hp; exact hblt) (fun _ => rfl)
    (fun x hx => by
      cases hx
      have hle := hR.turn_le id (fun _ _ => none) (some (b, o + off * sz))
      refine ⟨b, o + off * sz, _, ty2, f0, by simp [Gh.turn], hw', by rw [hsz, hfl]; omega, ?_, hcells, fun j hj => ?_, fun j h1 h2 h3 => ?_⟩
      · have e9 : (((Am.splice c.toList (o + off * sz + len * sz) us).toArray.toList.drop (o + off * sz)).take ((xs ++ ys).flatMap AV.cells).length) = (((c.toList.drop o).take cs.length).drop (off * sz)).take (len * sz) ++ us := by
          apply List.ext_getElem?
          intro i
          rw [hfl, List.getElem?_take, List.getElem?_drop, List.toList_toArray, splice_get hsp, List.getElem?_append]
          have hl9 : ((((c.toList.drop o).take cs.length).drop (off * sz)).take (len * sz)).length = len * sz := by simp; omega
          by_cases h1 : i < len * sz
          · rw [if_pos (by omega), if_neg (by omega), if_pos (by omega), List.getElem?_take, if_pos h1, List.getElem?_drop, List.getElem?_take, if_pos (by omega), List.getElem?_drop]
            congr 1; omega
          · by_cases h2 : i < len * sz + us.length
            · rw [if_pos (by omega), if_pos (by omega), if_neg (by omega)]
              congr 1; omega
            · rw [if_neg (by omega), if_neg (by omega)]
              simp; omega
        rw [e9, List.flatMap_append, r3]
        exact (((k4.drop (off * sz)).take (len * sz)).append u1).mono hle
      · have ho := k6 j (by omega)
        simp only [Own.turn, if_pos ho]
        exact if_pos (decide_eq_true ⟨trivial, hj⟩)
      · obtain ⟨v, hv⟩ := k7 j (by omega) (by omega) (by omega)
        exact ⟨v, hle.imm _ _ _ hv⟩)
  refine ⟨_, _, _, _, hrun, ?_, hrel, hR.turn_le id _ _⟩
  have := RepV.hsl (G := G.turn own id s.next (fun _ _ => none) (some (b, o + off * sz))) s.next 0 (len + ys.length) sz b (o + off * sz) cap c.size h.pos (by simp [Gh.turn]) (by omega) (by simpa [Gh.turn, j2] using hbz) (by omega)
  simpa using this

/-- Nothing to append. -/
theorem app_nil {t u e sz by_ : Nat} {zv S X : Value} {A : AV} (h : AppIn P t u e sz by_ zv) (hR : Rel P ng s w G own) {ag : Bool} {B : AV} (rA : RepV G A S) (rB : RepV G B X) (hB : elems s.objs ag sz B = some [])
    (hA : A = .nsl ∨ (∃ t xs, A = .sl t sz xs) ∨ ∃ i f l, A = .hsl i f l sz) (ty : TypeId) : (Builtin.append_ #[t, u] ty #[S, X]).run P w = .ok S w := by
  obtain ⟨⟨us, u1, u2, u3⟩, _, _⟩ := src_rep (P := P) hR h.pos rB hB
  have hus : us = [] := by have := u1.1; simpa using this.symm
  subst hus
  have hn3 := u3 0 (Nat.le_refl _)
  rw [List.take_nil] at hn3
  rcases hA with rfl | ⟨g, xs, rfl⟩ | ⟨i, f, l, rfl⟩
  · cases rA
    exact append_room (xs := []) (ys := []) h (us := []) u2 hn3 (by simp) rfl ty
  · obtain ⟨b, o, cap, n, rfl, _, _, _, hc, _⟩ := rA.sl_inv
    exact append_room (p := some ⟨b, o, none⟩) (xs := xs) (ys := []) h (us := []) u2 hn3 (by simpa using hc) (by rfl) ty
  · obtain ⟨b, o, cap, n, rfl, _, _, hc, _, _⟩ := rA.hsl_inv
    have := append_room (p := some ⟨b, o + f * sz, none⟩) (xs := List.replicate l .nsl) (ys := []) (cap := cap) h (us := []) u2 hn3 (by simpa using hc) (by rfl) ty
    simpa using this

theorem demA_rep {A : AV} {S : Value} (r : RepV G A S) : RepV G (demA A) S := by
  cases r with
  | sl tag sz xs b o cap n vs hz hs h1 hl hi hr hc hb hn ht1 ht2 => exact .sl 0 sz xs b o cap n vs hz hs h1 hl hi hr hc hb hn (by simp) (by simp)
  | bool b => exact .bool b
  | int k n => exact .int k n
  | str s x e => exact .str s x e
  | nptr => exact .nptr
  | ptr id off b o e => exact .ptr id off b o e
  | iptr cs b o vs hl hi h1 hr => exact .iptr cs b o vs hl hi h1 hr
  | nsl => exact .nsl
  | hsl id off len sz b o cap n hz e hc hb hn => exact .hsl id off len sz b o cap n hz e hc hb hn
  | nmap => exact .nmap
  | map id b e => exact .map id b e
  | nfn => exact .nfn
  | nif => exact .nif
  | yld id b e => exact .yld id b e
  | fn f first cap us vs h1 h2 i1 i2 => exact .fn f first cap us vs h1 h2 i1 i2
  | agg cs vs hl h1 ih => exact .agg cs vs hl h1 ih
  | tup cs vs hl ih => exact .tup cs vs hl ih

theorem app_sound {t u e sz by_ flag : Nat} {zv S X : Value} {A B v : AV} {ag : Bool} (h : AppIn P t u e sz by_ zv) (hR : Rel P ng s w G own) (rA : RepV G A S) (rB : RepV G B X)
    (he : evApp s flag e sz by_ ag A B = some (v, s')) (ty : TypeId) :
    ∃ uu w' H own', (Builtin.append_ #[t, u] ty #[S, X]).run P w = .ok uu w' ∧ RepV H v uu ∧ Rel P ng s' w' H own' ∧ G.le H := by
  simp only [evApp] at he
  cases hB : elems s.objs ag sz B with
  | none => simp [hB] at he
  | some ys =>
    simp only [hB] at he
    split at he
    · rename_i hys
      have hys : ys = [] := by simpa using hys
      subst hys
      cases A <;> simp only at he <;> try (cases he; done)
      · cases he
        exact ⟨_, w, G, own, app_nil h hR rA rB hB (.inl rfl) ty, rA, hR, Gh.le.refl G⟩
      · rename_i g z xs
        split at he
        · rename_i hz; subst hz
          cases he
          refine ⟨_, w, G, own, app_nil h hR rA rB hB (.inr (.inl ⟨_, _, rfl⟩)) ty, ?_, hR, Gh.le.refl G⟩
          split
          · exact demA_rep rA
          · exact rA
        · cases he
      · split at he
        · rename_i hz; obtain ⟨hz, _⟩ := hz; subst hz
          cases he
          exact ⟨_, w, G, own, app_nil h hR rA rB hB (.inr (.inr ⟨_, _, _, rfl⟩)) ty, rA, hR, Gh.le.refl G⟩
        · cases he
    · rename_i hys
      have h0 : ys ≠ [] := by simpa using hys
      have hy1 : 1 ≤ ys.length := by cases ys with | nil => exact absurd rfl h0 | cons => simp
      cases hc : consume s flag e sz ag A with
      | none => simp [hc] at he
      | some p =>
        obtain ⟨xs, s1, f⟩ := p
        simp only [hc] at he
        split at he
        · rename_i hcond
          obtain ⟨hb, _⟩ := hcond
          have hres : (v, s') = appRes flag e sz f (xs ++ ys) s1 := by
            match flag with
            | 0 => simp at he; simp [appRes, he]
            | 1 => simp at he; simp [appRes, he]
            | n + 2 => simp at he; simp [appRes, he]
          have hv : v = (appRes flag e sz f (xs ++ ys) s1).1 := by rw [← hres]
          have hs : s' = (appRes flag e sz f (xs ++ ys) s1).2 := by rw [← hres]
          rw [hv, hs]
          cases A <;> simp only [consume] at hc <;> try (cases hc; done)
          · cases hc
            cases rA
            exact grow_result h hR hR .nsl rfl (by intro b; exact nofun) rB hB rfl (by simpa using h0) hb h0 (Nat.zero_le _) ty
          · rename_i g z zs
            split at hc
            · rename_i hz; subst hz
              obtain ⟨b, o, cap, n, hS, q1, q2, q3, q4, q5, q6, q7, q8⟩ := rA.sl_inv
              have hel : elems s.objs ag z (.sl g z zs) = some zs := by simp [elems]
              split at hc
              · rename_i hg; cases hc
                exact grow_result h hR hR rA hel (by intro b; exact nofun) rB hB hS (by have := q7 hg; omega) hb h0 (Nat.zero_le _) ty
              · split at hc
                · rename_i hg
                  split at hc
                  · rename_i uu hlk
                    split at hc
                    · rename_i hu; subst hu; cases hc
                      by_cases hroom : xs.length + ys.length ≤ cap
                      · subst hS
                        exact room_sl h hR q2 q3 q5 q6 (q8 hg) hlk rB hB hroom ty
                      · exact grow_result h hR (hR.forget del_sub) rA hel (by intro b; exact nofun) rB hB hS hroom hb h0 (Nat.le_refl _) ty
                    · cases hc
                  · cases hc
                · cases hc
            · cases hc
          · rename_i id off len z
            split at hc
            · rename_i hz; obtain ⟨hz, hfl⟩ := hz; subst hz
              split at hc
              · rename_i fl y cs hlk
                split at hc
                · rename_i hq; obtain ⟨hy, hq1, hq2, hq3⟩ := hq; subst hy; cases hc
                  obtain ⟨b, o, cap, n, hS, p1, p2, p3, p4, p5⟩ := rA.hsl_inv
                  obtain ⟨_, _, _, _, _, _, _, _, _, k5, _⟩ := hR.objL hlk p2
                  have hm : (off + len) * y = off * y + len * y := Nat.add_mul _ _ _
                  obtain ⟨r1, _, _⟩ := rows_flat (ag := ag) (n := len) (cs := cs.drop (off * y)) (by simp; omega) (fun a ha => k5 a (List.mem_of_mem_drop ha)) h.pos hq3
                  have hel : elems s.objs ag y (.hsl id off len y) = some (rows ag y len (cs.drop (off * y))) := by
                    simp only [elems, cellsAt, hlk]
                    rw [if_pos ⟨trivial, hq3⟩, if_pos (by simp; omega)]
                  by_cases hroom : len + ys.length ≤ cap
                  · subst hS
                    obtain ⟨uu, w', H, own', z1, z2, z3, z4⟩ := room_arr h hR hlk p2 p4 p5 hq1 hq2 hq3 rB hB hroom ty
                    refine ⟨uu, w', H, own', z1, ?_, ?_, z4⟩
                    · subst hfl; simp only [appRes, List.length_append, r1]; exact z2
                    · subst hfl; exact z3
                  · exact grow_result h hR (hR.forget del_sub) rA hel (by intro b; exact nofun) rB hB (by rw [r1]; exact hS) (by rw [r1]; exact hroom) hb h0 (by rw [r1]; omega) ty
                · cases hc
              · cases hc
            · cases hc
        · cases he

end
end Go.Am

namespace Go.Am

section
variable {P : Program} {ng fl : Nat} {G : Gh} {own : Own} {fr : List AV} {a : Act} {w : World} {s s' : St} {o : Oper} {io : IOp} {v : AV}

theorem run_zeroValue_all {t : TypeId} {z : AV} (h : zOf P t = some z) : ∃ v, (∀ w, (zeroValue t).run P w = .ok v w) ∧ ofV v = some z := by
  simp only [zOf, Option.bind_eq_some_iff] at h
  obtain ⟨v, ⟨i, hi, hz⟩, hv⟩ := h
  exact ⟨v, fun w => by simp [zeroValue, typeInfo, hi, hz], hv⟩

theorem ok_app {flag : Nat} {x z : Operand} {y q : Opd} {cal : Call} {t u e : TypeId} {sz by_ : Nat} {zz : AV} {ag : Bool} (hR : Rel P ng s w G own) (hf : RepF G fr a) (ho : o.op = .call cal) (hc : cal.callee = .builtin .append)
    (hts : cal.argTypes.toList = [t, u]) (hxs : cal.args.toList = [x, z]) (hx : lowX ng x = some y) (hz : lowX ng z = some q) (ht : P.underlying t = some (.slice e)) (hu : srcOf P u = true) (hsz : szOf P e = some sz) (hby : byOf P e = some by_)
    (hzz : zOf P e = some zz) (h0 : 0 < sz) (hnt : zz.nt = true) (hzl : zz.cells.length = sz) (he : evOp fr s (.app flag e sz by_ ag y q) = some (v, s')) : OpOk P ng G a w o v s' := by
  have r1 := lowX_rep hf hx hR.glob
  have r2 := lowX_rep hf hz hR.glob
  have hex := call_builtin (a := a) ho hc
  rw [arr_of hts, arr_of hxs] at hex
  simp only [evOp] at he
  obtain ⟨zv, z1, z2⟩ := run_zeroValue_all hzz
  obtain ⟨hzr, _⟩ := ofV_rep G z2
  obtain ⟨hzc, _⟩ := hzr.nt_cells hnt
  have hin : AppIn P t u e sz by_ zv := ⟨ht, hu, hsz, hby, z1, by rw [← hzl, hzc.1]; simp, h0⟩
  obtain ⟨uu, w', H, own', k1, k2, k3, k4⟩ := app_sound hin hR r1 r2 he o.type
  refine ⟨uu, w', H, own', .inl ?_, k2, k3, k4⟩
  rw [hex]
  simp only [builtin]
  simp [k1]

theorem ok_mkslice {own_ : Bool} {t e : TypeId} {sz by_ : Nat} {zz : AV} {x z : Operand} {y q : Opd} (hR : Rel P ng s w G own) (hf : RepF G fr a) (ho : o.op = .makeSlice t x z) (hx : lowX ng x = some y) (hz : lowX ng z = some q)
    (ht : P.underlying t = some (.slice e)) (hsz : szOf P e = some sz) (hby : byOf P e = some by_) (hzz : zOf P e = some zz) (he : evOp fr s (.mkslice own_ e sz by_ zz y q) = some (v, s')) : OpOk P ng G a w o v s' := by
  have r1 := lowX_rep hf hx hR.glob
  have r2 := lowX_rep hf hz hR.glob
  obtain ⟨zv, hz1, hz2⟩ := run_zeroValue hzz w
  obtain ⟨hzr, _⟩ := ofV_rep G hz2
  simp only [evOp] at he
  split at he
  case h_2 => cases he
  rename_i n m e1 e2
  split at he
  case isFalse => cases he
  rename_i hc
  obtain ⟨hn, rfl, hb, hnt, hzl, hz0⟩ := hc
  rw [e1] at r1; rw [e2] at r2
  have x1 := r1.int_inv
  have x2 := r2.int_inv
  obtain ⟨hzc, hzo⟩ := hzr.nt_cells hnt
  have hzs : zv.cells.size = sz := by rw [← hzl, hzc.1]; simp
  obtain ⟨ti, hti, hbb⟩ : ∃ ti, P.info? e = some ti ∧ ti.bytes = by_ := by
    simp only [byOf, Option.map_eq_some_iff] at hby
    exact hby
  obtain ⟨k, rfl⟩ : ∃ k : Nat, n = k := ⟨n.toNat, by omega⟩
  have hkb : k * (by_ + 1) ≤ maxL := by
    have : ((k * (by_ + 1) : Nat) : Int) ≤ ((maxL : Nat) : Int) := by simpa using hb
    omega
  have hk : k ≤ maxL := Nat.le_trans (Nat.le_mul_of_pos_right _ (by omega)) hkb
  have hkb2 : by_ * k ≤ maxL := by rw [Nat.mul_comm]; exact Nat.le_trans (Nat.mul_le_mul_left _ (by omega)) hkb
  have hw : IntKind.i64.wrap (k : Int) = k := wrap_small _ (by omega) (by simp only [maxL] at hk; omega)
  let row : Array Value := (Array.range (k * sz)).map fun i => zv.cells[i % zv.cells.size]!
  have hrow : row.toList = (List.replicate k zv.cells.toList).flatten := by
    have := rep_cells zv.cells k
    rw [hzs] at this
    simp only [row]; rw [hzs]; exact this
  have hti' : (typeInfo e).run P w = .ok ti w := by simp [typeInfo, hti]
  have hfl : ¬ ((ti.bytes : Int) * (k : Int) > 2 ^ 48) := by
    rw [hbb]
    have : ((by_ : Int) * (k : Int)) = ((by_ * k : Nat) : Int) := by simp
    rw [this]; simp only [maxL] at hkb2; omega
  have hrun : (execOp a.eval o).run P w = .ok (.value (.slice (some ⟨w.heap.size, 0, none⟩) k k)) { w with heap := w.heap.push (.cells row e) } := by
    simp only [execOp, ho, Instr.makeSlice, x1, x2, Sem.run_bind, run_underlying ht, Result.andThen_ok, asInt, asIntOf, Sem.run_pure, hti', hw]
    have hcond : ((decide ((k : Int) < 0) || decide ((ti.bytes : Int) * (k : Int) > 2 ^ 48)) || decide ((k : Int) < 0) || decide ((k : Int) > (k : Int))) = false := by
      simp only [Bool.or_eq_false_iff, decide_eq_false_iff_not]
      exact ⟨⟨⟨by omega, hfl⟩, by omega⟩, by omega⟩
    rw [if_neg (by simpa using hcond)]
    simp only [Sem.run_bind, run_askRoom, Result.andThen_ok, run_sizeOf hsz, Int.toNat_natCast]
    by_cases h0 : k * sz = 0
    · have hrow' : ((Array.range (k * sz)).map fun x => (#[] : Array Value)[x % (#[] : Array Value).size]!) = row := by simp [row, h0]
      rw [if_pos h0]
      simp only [Sem.run_bind, Sem.run_pure, Result.andThen_ok, hrow']
      rfl
    · have hrow' : ((Array.range (k * sz)).map fun x => zv.cells[x % zv.cells.size]!) = row := rfl
      rw [if_neg h0]
      simp only [Sem.run_bind, Sem.run_pure, hz1, Result.andThen_ok, hrow']
      rfl
  have hsx : ∀ x ∈ List.replicate k zz, x.nt = true ∧ x.cells.length = sz := fun x hx => by rw [(List.mem_replicate.1 hx).2]; exact ⟨hnt, hzl⟩
  have hys : row.size = k * sz := by simp [row]
  cases own_ with
  | false =>
    cases he
    obtain ⟨H, own', k1, k2, k3⟩ := new_row hR (e := e) hz0 hsx (fun x hx a ha => by rw [(List.mem_replicate.1 hx).2] at ha; exact hzo a ha) (c := row) (cap := k) hys (by simp)
      (by rw [List.length_replicate, List.take_of_length_le (by simp [hys]), hrow]; exact rep_flat hzc k) { w with heap := w.heap.push (.cells row e) } rfl 1 (.inr ⟨rfl, by simp⟩) (k := k) (by simp)
    exact ⟨_, _, H, own', .inl hrun, by simpa using k1, k2, k3⟩
  | true =>
    cases he
    obtain ⟨H, own', k1, k2, k3⟩ := new_arr hR (e := e) (f := 0) hz0 hsx (fun x hx a ha => by rw [(List.mem_replicate.1 hx).2] at ha; exact hzo a ha) (c := row) (cap := k) hys (by simp) (Nat.zero_le _)
      (by rw [List.length_replicate, List.take_of_length_le (by simp [hys]), hrow]; exact rep_flat hzc k) { w with heap := w.heap.push (.cells row e) } rfl (k := k) (by simp)
    exact ⟨_, _, H, own', .inl hrun, by simpa using k1, k2, k3⟩

/-- The bytes of a string, as a slice. -/
theorem ok_s2b {S D e : TypeId} {x : Operand} {y : Opd} (hR : Rel P ng s w G own) (hf : RepF G fr a) (ho : o.op = .convert S D x) (hx : lowX ng x = some y) (hs : P.underlying S = some .string)
    (hd : P.underlying D = some (.slice e)) (hu : P.underlying e = some (.int .u8)) (he : evOp fr s (.s2b y) = some (v, s')) : OpOk P ng G a w o v s' := by
  have r := lowX_rep hf hx hR.glob
  simp only [evOp] at he
  split at he
  case h_2 => cases he
  rename_i b e1
  cases he
  rw [e1] at r
  obtain ⟨z, hv, hz⟩ := r.str_inv
  have hsz : z.size = b.length := by rw [← hz, List.length_map, Array.length_toList]; rfl
  let q : Question := .appendCap z.size 0 e
  let cap := q.cut (w.tape w.drawn q)
  let w1 : World := { w with drawn := w.drawn + 1 }
  have hcap : z.size ≤ cap := by simp only [cap, q, Question.cut]; omega
  let row : Array Value := (z.data.map fun b => Value.int .u8 b.toNat) ++ Array.replicate (cap - z.size) (.int .u8 0)
  have hrow : row.size = cap * 1 := by
    have : z.data.size = z.size := rfl
    simp only [row, Array.size_append, Array.size_map, Array.size_replicate, this]; omega
  have hch : (choose (.appendCap z.size 0 e)).run P w = .ok cap w1 := by rw [run_choose]; rfl
  let w2 : World := { w1 with heap := w1.heap.push (.cells row e) }
  obtain ⟨w3, fz, hm, hw3, ho3⟩ : ∃ w3 fz, (markStringish ⟨w.heap.size, 0, none⟩).run P w2 = .ok () w3 ∧ w3.heap = w.heap.push (.cells row e fz) ∧ (w3.os = w.os ∧ w3.output = w.output) := by
    have hget : w2.heap[w.heap.size]? = some (.cells row e) := by simp [w2, w1]
    refine ⟨w2.freeze ⟨w.heap.size, row.size, none⟩ 1, (row.size, row.size + 1), ?_, ?_, by simp only [World.freeze]; exact ⟨rfl, rfl⟩⟩
    · simp only [markStringish, shape, freeze, Sem.run_bind, Sem.run, World.shape?, hget, Result.andThen_ok]
    · have hne : ¬ (1 = 0) := by omega
      simp only [World.freeze, if_neg hne, w2, w1]
      apply Array.ext_getElem?
      intro i
      rw [Array.getElem?_modify, Array.getElem?_push, Array.getElem?_push]
      by_cases hi : i = w.heap.size
      · subst hi; simp
      · rw [if_neg (fun e => hi e.symm), if_neg hi, if_neg hi]
  have hrun : (execOp a.eval o).run P w = .ok (.value (.slice (some ⟨w.heap.size, 0, none⟩) z.size cap)) w3 := by
    simp only [execOp, ho, hv, convert, Sem.run_bind, run_underlying hs, run_underlying hd, run_underlying hu, Result.andThen_ok, Conv.stringToBytes, hch, newRow, Sem.run_pure, run_newObj]
    have hm' : (markStringish ⟨w.heap.size, 0, none⟩).run P { w1 with heap := w1.heap.push (.cells row e) } = .ok () w3 := hm
    erw [hm']
    simp [Result.andThen, w1]
  have hone : ∀ x ∈ (b.map fun c => AV.int .u8 (Int.ofNat c)), x.one = true := by intro x hx; obtain ⟨c, _, rfl⟩ := List.mem_map.1 hx; rfl
  have hrep : RepL G (b.map fun c => AV.int .u8 (Int.ofNat c)) (row.toList.take (b.length * 1)) := by
    have e2 : row.toList.take (b.length * 1) = b.map fun c => Value.int .u8 (Int.ofNat c) := by
      have e3 : row.toList = z.data.toList.map (fun b => Value.int .u8 b.toNat) ++ List.replicate (cap - z.size) (.int .u8 0) := by simp [row]
      rw [e3, List.take_append_of_le_length (by simp; rw [← hsz]; exact Nat.le_refl _), List.take_of_length_le (by simp; rw [← hsz]; exact Nat.le_refl _), ← hz, List.map_map]
      rfl
    rw [e2]
    refine ⟨by simp, fun i p q e1 e2 => ?_⟩
    rw [List.getElem?_map, Option.map_eq_some_iff] at e1 e2
    obtain ⟨c, hc, rfl⟩ := e1
    obtain ⟨c', hc', rfl⟩ := e2
    rw [hc] at hc'; cases hc'
    exact .int _ _
  obtain ⟨H, own', k1, k2, k3⟩ := new_row hR (e := e) (z := 1) (by omega) (xs := b.map fun c => AV.int .u8 (Int.ofNat c)) (fun x hx => by have := hone x hx; exact ⟨AV.one_nt this, by rw [AV.one_cells this]; rfl⟩)
    (fun x hx a ha => by have := hone x hx; rw [AV.one_cells this] at ha; simp at ha; subst ha; exact this) (c := row) (cap := cap) hrow (by simp; omega) (by rw [ones_flat hone, List.length_map]; exact hrep) w3 hw3 0 (.inl rfl) (k := z.size) (by simp [hsz]) ho3
  exact ⟨_, _, H, own', .inl hrun, k1, k2, k3⟩

/-- clear. -/
theorem ok_clr {x : Operand} {y : Opd} {cal : Call} {t e : TypeId} {sz : Nat} {zz : AV} (hR : Rel P ng s w G own) (hf : RepF G fr a) (ho : o.op = .call cal) (hc : cal.callee = .builtin .clear) (hts : cal.argTypes.toList = [t])
    (hxs : cal.args.toList = [x]) (hx : lowX ng x = some y) (ht : P.underlying t = some (.slice e)) (hzz : zOf P e = some zz) (he : evOp fr s (.clr sz zz y) = some (v, s')) : OpOk P ng G a w o v s' := by
  have r := lowX_rep hf hx hR.glob
  have hex := call_builtin (a := a) ho hc
  rw [arr_of hts, arr_of hxs] at hex
  obtain ⟨zv, z1, z2⟩ := run_zeroValue_all hzz
  obtain ⟨hzr, _⟩ := ofV_rep G z2
  simp only [evOp] at he
  split at he
  · rename_i e1
    cases he
    rw [e1] at r
    refine ⟨.tuple #[], w, G, own, .inl ?_, undef_rep G, hR, Gh.le.refl G⟩
    rw [hex]
    simp [builtin, Builtin.clear_, run_underlying ht, r.nsl_inv]
  · rename_i id off len z' e1
    split at he
    case isFalse => cases he
    rename_i hcd
    obtain ⟨rfl, hnt, hzl⟩ := hcd
    split at he
    case h_2 => cases he
    rename_i st hst
    cases he
    rw [e1] at r
    obtain ⟨b, m, cap, nn, hv, hz0, hloc, hcap, hbz, hn⟩ := r.hsl_inv
    obtain ⟨hzc, hzo⟩ := hzr.nt_cells hnt
    have hzs : zv.cells.size = z' := by rw [← hzl, hzc.1]; simp
    have rp : RepV G (.ptr id (off * z')) (.pointer (some ⟨b, m + off * z', none⟩)) := .ptr id _ b m hloc
    have hus : (Builtin.zeroCells zv.cells len).toList = (List.replicate len zv.cells.toList).flatten := by
      have := rep_cells zv.cells len
      simpa [Builtin.zeroCells] using this
    obtain ⟨b', m', w', hv', hrun, hR'⟩ := store_run (P := P) hR rp (us := (Builtin.zeroCells zv.cells len).toList) (by rw [hus]; exact rep_flat hzc len)
      (fun a ha => by obtain ⟨x, hx, ha⟩ := List.mem_flatMap.1 ha; rw [(List.mem_replicate.1 hx).2] at ha; exact hzo a ha) hst
    cases hv'
    refine ⟨.tuple #[], w', G, own, .inl ?_, undef_rep G, hR', Gh.le.refl G⟩
    rw [hex]
    cases len with
    | zero =>
      have : Builtin.zeroCells zv.cells 0 = #[] := by simp [Builtin.zeroCells]
      rw [this] at hrun
      have hw : w' = w := by
        have : (storeCells ⟨b, m + off * z', none⟩ ([] : List Value)).run P w = .ok () w := rfl
        rw [show (#[] : Array Value).toList = [] from rfl, this] at hrun
        cases hrun; rfl
      subst hw
      simp [builtin, Builtin.clear_, run_underlying ht, hv]
    | succ n =>
      simp [builtin, Builtin.clear_, run_underlying ht, hv, z1, hrun]
  · cases he

end
end Go.Am

namespace Go.Am

section
variable {P : Program} {ng fl : Nat} {G : Gh} {own : Own} {fr : List AV} {a : Act} {w : World} {s s' : St} {o : Oper} {io : IOp} {v : AV}

theorem lowB_sound {b : Builtin} {cal : Call} (hR : Rel P ng s w G own) (hf : RepF G fr a) (ho : o.op = .call cal) (hc : cal.callee = .builtin b) (hl : lowB P ng fl b cal.argTypes.toList cal.args.toList = some io)
    (he : evOp fr s io = some (v, s')) : OpOk P ng G a w o v s' := by
  generalize hts : cal.argTypes.toList = ts at hl
  generalize hxs : cal.args.toList = xs at hl
  unfold lowB at hl
  split at hl
  · rename_i t u x z
    split at hl
    · rename_i y q e hx hz ht
      split at hl
      · rename_i sz by_ zz hsz hby hzz
        split at hl
        · rename_i hcd
          simp only [Bool.and_eq_true, decide_eq_true_eq] at hcd
          obtain ⟨⟨⟨h1, h2⟩, h3⟩, h4⟩ := hcd
          cases hl
          exact ok_app hR hf ho hc hts hxs hx hz ht h1 hsz hby hzz h2 h3 h4 he
        · cases hl
      · cases hl
    · cases hl
  · rename_i t u x z
    split at hl
    · rename_i y q e hx hz ht
      split at hl
      · rename_i sz hsz
        cases hl
        exact ok_copy hR hf ho hc hts hxs hx hz ht hsz he
      · cases hl
    · cases hl
  · rename_i t x
    split at hl
    · rename_i y hx ht
      cases hl
      exact ok_len hR hf ho hc hts hxs hx ⟨fun _ => ht, by simp⟩ he
    · rename_i y e hx ht
      cases hl
      exact ok_len hR hf ho hc hts hxs hx ⟨by simp, fun _ => ⟨e, ht⟩⟩ he
    · rename_i y n e hx ht
      cases hl
      exact ok_lenA hR ho hc hts hxs ht he
    · cases hl
  · rename_i t x
    split at hl
    · rename_i y e hx ht
      cases hl
      exact ok_cap hR hf ho hc hts hxs hx ht he
    · cases hl
  · rename_i t x
    split at hl
    · rename_i y e hx ht
      split at hl
      · rename_i sz z hsz hz
        cases hl
        exact ok_clr hR hf ho hc hts hxs hx ht hz he
      · cases hl
    · cases hl
  · rename_i x r
    split at hl
    · rename_i y ys hx hy
      cases hl
      exact ok_mx (mx := true) hR hf ho hc hxs hx hy he
    · cases hl
  · rename_i x r
    split at hl
    · rename_i y ys hx hy
      cases hl
      exact ok_mx (mx := false) hR hf ho hc hxs hx hy he
    · cases hl
  · cases hl

/-- A string as a string of another type. -/
theorem ok_convS {S D : TypeId} {x : Operand} {y : Opd} (hR : Rel P ng s w G own) (hf : RepF G fr a) (ho : o.op = .convert S D x) (hx : lowX ng x = some y) (hs : P.underlying S = some .string)
    (hd : P.underlying D = some .string) (he : evOp fr s (.convS y) = some (v, s')) : OpOk P ng G a w o v s' := by
  have r := lowX_rep hf hx hR.glob
  simp only [evOp] at he
  split at he
  case h_2 => cases he
  rename_i b e1
  cases he
  rw [e1] at r
  generalize hv : a.eval x = xv at r
  cases r with
  | str _ z hz => exact .pure hR (u := .string z) (by simp [execOp, ho, hv, convert, run_underlying hs, run_underlying hd]) (.str _ _ hz)

theorem op_sound (hR : Rel P ng s w G own) (hf : RepF G fr a) (hl : lowOp P ng fl o.op = some io) (he : evOp fr s io = some (v, s')) : OpOk P ng G a w o v s' := by
  generalize ho : o.op = op at hl
  have hl0 := hl
  unfold lowOp at hl
  split at hl
  · exact ok_mov hR hf (.inl ho) hl he
  · exact ok_mov hR hf (.inr ho) hl he
  · exact ok_pick hR hf ho hl0 he
  · split at hl
    · rename_i z hz; cases hl; exact ok_alloc hR ho hz he
    · cases hl
  · simp only [Option.map_eq_some_iff] at hl
    obtain ⟨y, hy, rfl⟩ := hl
    exact ok_box hR hf ho hy he
  · split at hl
    · rename_i z fs hz ht
      split at hl
      · rename_i hall
        simp only [Option.map_eq_some_iff] at hl
        obtain ⟨ps, hps, rfl⟩ := hl
        refine ok_buildS hR hf ho hz ht (fun f hf => ?_) hps he
        have := List.all_eq_true.1 hall f hf
        exact Option.isSome_iff_exists.1 this
      · cases hl
    · rename_i z n e hz ht
      split at hl
      · rename_i sz hsz
        simp only [Option.map_eq_some_iff] at hl
        obtain ⟨ps, hps, rfl⟩ := hl
        exact ok_buildA hR hf ho hz ht hsz hps he
      · cases hl
    · cases hl
  · split at hl
    · rename_i e ht
      split at hl
      · rename_i sz z l hsz hz hll
        split at hl
        · rename_i hn; cases hl
          exact ok_mksl hR hf ho ht hsz hz hn hll he
        · cases hl
      · cases hl
    · cases hl
  · split at hl
    · rename_i k y hk hx; cases hl
      exact ok_load hR hf ho hk hx he
    · cases hl
  · split at hl
    · rename_i n y q hn hx hz; cases hl
      exact ok_store hR hf ho hn hx hz he
    · cases hl
  · exact ok_nilchk hR hf ho hl he
  · exact ok_bin hR hf ho hl0 he
  · exact ok_un hR hf ho hl he
  · split at hl
    · rename_i y k' k hx hs hd; cases hl
      exact ok_convI hR hf ho hx hs hd he
    · rename_i y e hx hs hd
      split at hl
      · rename_i hu; cases hl
        exact ok_b2s hR hf ho hx hs hd hu he
      · cases hl
    · rename_i y e hx hs hd
      split at hl
      · rename_i hu
        split at hl
        · cases hl; exact ok_s2b hR hf ho hx hs hd hu he
        · cases hl
      · cases hl
    · rename_i y hx hs hd; cases hl
      exact ok_convS hR hf ho hx hs hd he
    · cases hl
  · split at hl
    · rename_i A B hx hy; cases hl
      exact ok_mkfn hR hf ho hx hy he
    · cases hl
  · cases hl
    exact ok_mkmap hR ho (.inl rfl) he
  · split at hl
    · rename_i hk; cases hl
      exact ok_mkmap hR ho (.inr ⟨⟨_, _, rfl⟩, _, _, hk⟩) he
    · cases hl
  · split at hl
    · rename_i e ht
      split at hl
      · rename_i sz by_ z l c hsz hby hz hx hc; cases hl
        exact ok_mkslice hR hf ho hx hc ht hsz hby hz he
      · cases hl
    · cases hl
  · split at hl
    · rename_i y l h ht hx hl1 hh; cases hl
      exact ok_slstr hR hf ho hx hl1 hh ht he
    · rename_i e y l h ht hx hl1 hh
      simp only [Option.map_eq_some_iff] at hl
      obtain ⟨sz, hsz, rfl⟩ := hl
      exact ok_slsl hR hf ho hx hl1 hh ht hsz he
    · rename_i n e y l h ht hx hl1 hh
      simp only [Option.map_eq_some_iff] at hl
      obtain ⟨sz, hsz, rfl⟩ := hl
      exact ok_slarr hR hf ho hx hl1 hh ht hsz he
    · cases hl
  · split at hl
    · rename_i fs y ht hx
      split at hl
      · rename_i f hi
        split at hl
        · rename_i n hn; cases hl
          exact ok_fld hR hf ho hx ht hi hn he
        · cases hl
      · cases hl
    · cases hl
  · split at hl
    · rename_i fs y ht hx
      split at hl
      · rename_i f hi
        split at hl
        · rename_i k hk; cases hl
          exact ok_part hR hf ho hx ht hi hk he
        · cases hl
      · cases hl
    · cases hl
  · split at hl
    · rename_i n e y j ht hx hj
      simp only [Option.map_eq_some_iff] at hl
      obtain ⟨sz, hsz, rfl⟩ := hl
      exact ok_ixa hR hf ho hx hj ht hsz he
    · rename_i e y j ht hx hj
      simp only [Option.map_eq_some_iff] at hl
      obtain ⟨sz, hsz, rfl⟩ := hl
      exact ok_ixs hR hf ho hx hj ht hsz he
    · cases hl
  · split at hl
    · rename_i y j ht hx hj; cases hl
      exact ok_ixstr hR hf ho hx hj ht he
    · rename_i n e y j ht hx hj
      split at hl
      · rename_i sz k hsz hk; cases hl
        exact ok_ixarr hR hf ho hx hj ht hsz hk he
      · cases hl
    · cases hl
  · split at hl
    · rename_i k e y j ht hx hj
      split at hl
      · rename_i k' z hk hz; cases hl
        exact ok_look (kk := .int) hR hf ho hx hj ht ⟨k', hk⟩ hz he
      · rename_i z hk hz; cases hl
        exact ok_look (kk := .str) hR hf ho hx hj ht hk hz he
      · rename_i fs z hk hz
        simp only [Option.map_eq_some_iff] at hl
        obtain ⟨sh, hsh, rfl⟩ := hl
        exact ok_look (kk := .agg sh) hR hf ho hx hj ht ⟨⟨fs, hk⟩, hsh⟩ hz he
      · cases hl
    · cases hl
  · split at hl
    · rename_i k e m q r ht hm hk hv
      split at hl
      · rename_i k' hkt; cases hl
        exact ok_mset (kk := .int) hR hf (.inl ho) hm hk hv ht ⟨k', hkt⟩ he
      · rename_i hkt; cases hl
        exact ok_mset (kk := .str) hR hf (.inl ho) hm hk hv ht hkt he
      · rename_i fs hkt
        simp only [Option.map_eq_some_iff] at hl
        obtain ⟨sh, hsh, rfl⟩ := hl
        exact ok_mset (kk := .agg sh) hR hf (.inl ho) hm hk hv ht ⟨⟨fs, hkt⟩, hsh⟩ he
      · cases hl
    · cases hl
  · split at hl
    · rename_i k e m q r ht hm hk hv
      split at hl
      · rename_i k' hkt; cases hl
        exact ok_mset (kk := .int) hR hf (.inr ho) hm hk hv ht ⟨k', hkt⟩ he
      · rename_i hkt; cases hl
        exact ok_mset (kk := .str) hR hf (.inr ho) hm hk hv ht hkt he
      · rename_i fs hkt
        simp only [Option.map_eq_some_iff] at hl
        obtain ⟨sh, hsh, rfl⟩ := hl
        exact ok_mset (kk := .agg sh) hR hf (.inr ho) hm hk hv ht ⟨⟨fs, hkt⟩, hsh⟩ he
      · cases hl
    · cases hl
  · simp only [Option.map_eq_some_iff] at hl
    obtain ⟨y, hy, rfl⟩ := hl
    exact ok_ext hR hf ho hy he
  · exact lowB_sound hR hf ho rfl hl he
  · cases hl

end
end Go.Am

namespace Go.Am

mutual
theorem AV.eqb_sound : ∀ {a b : AV}, AV.eqb a b = true → a = b
  | .bool a, .bool b, h => by simp [AV.eqb] at h; rw [h]
  | .int j a, .int k b, h => by simp [AV.eqb] at h; rw [h.1, h.2]
  | .str a, .str b, h => by simp [AV.eqb] at h; rw [h]
  | .nptr, .nptr, _ => rfl
  | .ptr a b, .ptr c d, h => by simp [AV.eqb] at h; rw [h.1, h.2]
  | .iptr a, .iptr b, h => by simp only [AV.eqb] at h; rw [AV.eqbL_sound h]
  | .nsl, .nsl, _ => rfl
  | .sl t n a, .sl u m b, h => by simp [AV.eqb] at h; rw [h.1, h.2.1, AV.eqbL_sound h.2.2]
  | .hsl a b c d, .hsl e f g i, h => by simp [AV.eqb] at h; rw [h.1, h.2.1, h.2.2.1, h.2.2.2]
  | .nmap, .nmap, _ => rfl
  | .map a, .map b, h => by simp [AV.eqb] at h; rw [h]
  | .nfn, .nfn, _ => rfl
  | .yld a, .yld b, h => by simp [AV.eqb] at h; rw [h]
  | .nif, .nif, _ => rfl
  | .fn f a b, .fn g c d, h => by simp [AV.eqb] at h; rw [h.1, AV.eqbL_sound h.2.1, AV.eqbL_sound h.2.2]
  | .agg a, .agg b, h => by simp only [AV.eqb] at h; rw [AV.eqbL_sound h]
  | .tup a, .tup b, h => by simp only [AV.eqb] at h; rw [AV.eqbL_sound h]
theorem AV.eqbL_sound : ∀ {a b : List AV}, AV.eqbL a b = true → a = b
  | [], [], _ => rfl
  | a :: as, b :: bs, h => by simp only [AV.eqbL, Bool.and_eq_true] at h; rw [AV.eqb_sound h.1, AV.eqbL_sound h.2]
end

section
variable {fr fr' : List AV} {s s' : St} {io : IOp} {v : AV}

/-- Two frames agree on some temporaries. -/
def Agree (fr fr' : List AV) (l : List Nat) : Prop := ∀ t ∈ l, fr.getD t .undef = fr'.getD t .undef

theorem Agree.opd {x : Opd} (h : Agree fr fr' x.tmps) : x.ev fr = x.ev fr' := by
  cases x <;> simp only [Opd.ev]
  exact h _ (by simp [Opd.tmps])
theorem Agree.left {l m : List Nat} (h : Agree fr fr' (l ++ m)) : Agree fr fr' l := fun t ht => h t (List.mem_append_left _ ht)
theorem Agree.right {l m : List Nat} (h : Agree fr fr' (l ++ m)) : Agree fr fr' m := fun t ht => h t (List.mem_append_right _ ht)

theorem agree_opds {l : List Opd} (h : Agree fr fr' (l.flatMap Opd.tmps)) : l.map (Opd.ev fr) = l.map (Opd.ev fr') :=
  List.map_congr_left fun x hx => Agree.opd fun t ht => h t (List.mem_flatMap.2 ⟨x, hx, ht⟩)
theorem agree_fills : ∀ {ps : List (Nat × Nat × Opd)} {cs : List AV}, Agree fr fr' (ps.flatMap fun p => p.2.2.tmps) → fills cs fr ps = fills cs fr' ps
  | [], _, _ => rfl
  | (o, z, x) :: r, cs, h => by
    simp only [List.flatMap_cons] at h
    simp only [fills, h.left.opd]
    split
    · split
      · exact agree_fills h.right
      · rfl
    · rfl
theorem agree_fillE {sz : Nat} : ∀ {ps : List (Nat × Opd)} {cs : List AV}, Agree fr fr' (ps.flatMap fun p => p.2.tmps) → fillE sz cs fr ps = fillE sz cs fr' ps
  | [], _, _ => rfl
  | (o, x) :: r, cs, h => by
    simp only [List.flatMap_cons] at h
    simp only [fillE, h.left.opd]
    split
    · exact agree_fillE h.right
    · rfl
theorem agree_mx {mx : Bool} {k : IntKind} : ∀ {xs : List Opd} {a : Int}, Agree fr fr' (xs.flatMap Opd.tmps) → evMx mx k a fr xs = evMx mx k a fr' xs
  | [], _, _ => rfl
  | x :: r, a, h => by
    simp only [List.flatMap_cons] at h
    simp only [evMx, h.left.opd]
    split
    · exact agree_mx h.right
    · rfl
theorem agree_bounds {n : Nat} {lo hi : Option Opd} (h : Agree fr fr' (oTmps lo ++ oTmps hi)) : bounds fr n lo hi = bounds fr' n lo hi := by
  have h1 : bHi fr n hi = bHi fr' n hi := by cases hi <;> simp only [bHi]; rw [Agree.opd (x := _) h.right]
  have h2 : ∀ k, bLo fr k lo = bLo fr' k lo := by intro k; cases lo <;> simp only [bLo]; rw [Agree.opd (x := _) h.left]
  simp only [bounds, h1, h2]

theorem evOp_congr (h : Agree fr fr' io.looks) : evOp fr s io = evOp fr' s io := by
  cases io with
  | mov x => simp only [evOp, Agree.opd (x := x) h]
  | pick c a b => simp only [evOp, Agree.opd (x := c) h.left, Agree.opd (x := a) h.right.left, Agree.opd (x := b) h.right.right]
  | alloc ty cs => rfl
  | box ty x => simp only [evOp, Agree.opd (x := x) h]
  | build z ps => simp only [evOp, agree_fills (ps := ps) h]
  | mksl tag ty sz z n ps => simp only [evOp, agree_fillE (ps := ps) h]
  | load k a => simp only [evOp, Agree.opd (x := a) h]
  | store n a x => simp only [evOp, Agree.opd (x := a) h.left, Agree.opd (x := x) h.right]
  | nilchk x => simp only [evOp, Agree.opd (x := x) h]
  | bin op x y => simp only [evOp, Agree.opd (x := x) h.left, Agree.opd (x := y) h.right]
  | eqb n x y => simp only [evOp, Agree.opd (x := x) h.left, Agree.opd (x := y) h.right]
  | eqp n x y => simp only [evOp, Agree.opd (x := x) h.left, Agree.opd (x := y) h.right]
  | eqs n x y => simp only [evOp, Agree.opd (x := x) h.left, Agree.opd (x := y) h.right]
  | eqm n x y => simp only [evOp, Agree.opd (x := x) h.left, Agree.opd (x := y) h.right]
  | eqf n x y => simp only [evOp, Agree.opd (x := x) h.left, Agree.opd (x := y) h.right]
  | eqa n sh x y => simp only [evOp, Agree.opd (x := x) h.left, Agree.opd (x := y) h.right]
  | un op x => simp only [evOp, Agree.opd (x := x) h]
  | conv k x => simp only [evOp, Agree.opd (x := x) h]
  | b2s x => simp only [evOp, Agree.opd (x := x) h]
  | convS x => simp only [evOp, Agree.opd (x := x) h]
  | s2b x => simp only [evOp, Agree.opd (x := x) h]
  | clr sz z x => simp only [evOp, Agree.opd (x := x) h]
  | slstr x lo hi => simp only [evOp, Agree.opd (x := x) h.left, fun n => agree_bounds (n := n) (lo := lo) (hi := hi) h.right]
  | slsl sz x lo hi => simp only [evOp, Agree.opd (x := x) h.left, fun n => agree_bounds (n := n) (lo := lo) (hi := hi) h.right]
  | slarr n sz x lo hi => simp only [evOp, Agree.opd (x := x) h.left, fun n => agree_bounds (n := n) (lo := lo) (hi := hi) h.right]
  | fld o x => simp only [evOp, Agree.opd (x := x) h]
  | part o k x => simp only [evOp, Agree.opd (x := x) h]
  | ixa n sz x y => simp only [evOp, Agree.opd (x := x) h.left, Agree.opd (x := y) h.right]
  | ixs sz x y => simp only [evOp, Agree.opd (x := x) h.left, Agree.opd (x := y) h.right]
  | ixstr x y => simp only [evOp, Agree.opd (x := x) h.left, Agree.opd (x := y) h.right]
  | ixarr n sz k x y => simp only [evOp, Agree.opd (x := x) h.left, Agree.opd (x := y) h.right]
  | look st ok z x y => simp only [evOp, Agree.opd (x := x) h.left, Agree.opd (x := y) h.right]
  | mset st m k x => simp only [evOp, Agree.opd (x := m) h.left, Agree.opd (x := k) h.right.left, Agree.opd (x := x) h.right.right]
  | mkmap => rfl
  | mkfn f a b => simp only [evOp, agree_opds (l := a) h.left, agree_opds (l := b) h.right]
  | ext x i => simp only [evOp, Agree.opd (x := x) h]
  | app fl ty sz by_ ag x y => simp only [evOp, Agree.opd (x := x) h.left, Agree.opd (x := y) h.right]
  | copy sz x y => simp only [evOp, Agree.opd (x := x) h.left, Agree.opd (x := y) h.right]
  | len st x => simp only [evOp, Agree.opd (x := x) h]
  | cap x => simp only [evOp, Agree.opd (x := x) h]
  | mx m x xs => simp only [evOp, Agree.opd (x := x) h.left, fun k a => agree_mx (mx := m) (k := k) (a := a) (xs := xs) h.right]
  | mkslice ow ty sz by_ z x y => simp only [evOp, Agree.opd (x := x) h.left, Agree.opd (x := y) h.right]
  | bad => rfl

theorem evOp_pure (hp : io.pure = true) (h : evOp fr s io = some (v, s')) (t : St) : s' = s ∧ evOp fr t io = some (v, t) := by
  cases io <;> simp only [IOp.pure, Bool.false_eq_true] at hp
  case mksl tag ty sz z n ps =>
    cases tag with
    | true => simp [IOp.pure] at hp
    | false =>
      simp only [evOp, Bool.false_eq_true, if_false] at h ⊢
      repeat' split at h
      all_goals first | (cases h; done) | (cases h; simp_all)
  case mkslice ow _ _ _ _ _ _ =>
    cases ow with
    | true => simp [IOp.pure] at hp
    | false =>
      simp only [evOp] at h ⊢
      split at h
      · rename_i e1 e2
        split at h
        · rename_i hc
          cases h
          exact ⟨rfl, by rw [if_pos hc]; rfl⟩
        · cases h
      · cases h
  all_goals
    simp only [evOp] at h ⊢
    repeat' split at h
    all_goals first | (cases h; done) | (cases h; simp_all; done) | (cases h; exact ⟨rfl, rfl⟩)

theorem evOp_quiet (hp : io.quiet = true) (h : evOp fr s io = some (v, s')) : s' = s := by
  by_cases hq : io.pure = true
  · exact (evOp_pure hq h s).1
  · cases io <;> simp only [IOp.quiet, IOp.pure, Bool.false_eq_true, not_true, not_false_iff] at hp hq
    case mksl tag _ _ _ _ _ => cases tag <;> simp [IOp.quiet, IOp.pure] at hp hq
    case mkslice ow _ _ _ _ _ _ => cases ow <;> simp [IOp.quiet, IOp.pure] at hp hq
    all_goals
      simp only [evOp] at h
      repeat' split at h
      all_goals first | (cases h; done) | (cases h; rfl)

end
end Go.Am

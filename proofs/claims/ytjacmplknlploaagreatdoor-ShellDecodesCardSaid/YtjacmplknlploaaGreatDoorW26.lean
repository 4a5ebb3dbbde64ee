/- Told functions: those of the library that the model answers by itself. Contracts of the kit's shelf, laid at this program (written by the kit's lay-plain). Told functions that leave the memory of the caller as it is. Told: the string of a builder that has nothing. slices.Insert at two variables: one ahead of one. slices.Insert at two variables: no room. slices.Insert at three texts: one between two. Told: slices.Insert. -/
import Derived.Test.YtjacmplknlploaaGreatDoorW09
import Derived.Test.YtjacmplknlploaaGreatDoorW13
import Derived.Lib.Bytealg
import Derived.Laws.Externs
import Derived.Shelf.Strings.OnBuilder
import Derived.Shelf.Spec.SlicesInsertGrow
import Derived.Ground.NamesProg
import Derived.Ground.Names2Prog
import Derived.Test.YtjacmplknlploaaGreatDoorProg
set_option linter.all false
namespace Go.Am

def SpOk (P : Program) (ng f : Nat) (h : List AV → St → Option (AV × St)) : Prop :=
  ∀ (args : List AV) (s : St) (v : AV) (s' : St) (G : Gh) (own : Own) (w : World) (us : List Value), h args s = some (v, s') → Rel P ng s w G own → RepL G args us → Does P f us.toArray w (Post P ng G v s')

theorem idxN_neg (l : List Nat) (c : Nat) : idxN l c = -1 ∨ ∃ n : Nat, idxN l c = .ofNat n := by
  induction l with
  | nil => exact .inl rfl
  | cons b l ih =>
    simp only [idxN]
    cases Nat.beq b c with
    | true => exact .inr ⟨0, rfl⟩
    | false =>
      rcases ih with h | ⟨n, h⟩
      · left; simp only [cond_false, h]
      · right; exact ⟨n + 1, by simp only [cond_false, h]⟩

theorem beq_u8 (x : UInt8) (c : Nat) (hc : c < 256) : (x == c.toUInt8) = Nat.beq x.toNat c := by
  have e : c.toUInt8.toNat = c := by simp [Nat.toUInt8, UInt8.toNat_ofNat']; omega
  rw [Bool.eq_iff_iff, beq_iff_eq, Nat.beq_eq]
  constructor
  · intro h; rw [h, e]
  · intro h; exact UInt8.toNat_inj.1 (by rw [e, h])

theorem idxN_eq (c : Nat) (hc : c < 256) : ∀ l : List UInt8, Lib.indexByte l c.toUInt8 = idxN (l.map UInt8.toNat) c
  | [] => rfl
  | x :: l => by
    simp only [Lib.indexByte, List.map_cons, idxN]
    rw [idxN_eq c hc l, beq_u8 x c hc]
    cases Nat.beq x.toNat c with
    | true => simp
    | false =>
      rcases idxN_neg (l.map UInt8.toNat) c with h | ⟨n, h⟩
      · simp [h]
      · simp only [h, cond_false, Bool.false_eq_true, if_false]
        rw [if_neg]
        · rfl
        · simp only [beq_iff_eq]; intro h; cases h

theorem cntN_eq (c : Nat) (hc : c < 256) : ∀ l : List UInt8, Lib.countByte l c.toUInt8 = cntN (l.map UInt8.toNat) c
  | [] => rfl
  | x :: l => by
    have ih := cntN_eq c hc l
    simp only [Lib.countByte] at ih ⊢
    simp only [List.count_cons, List.map_cons, cntN, ih, beq_u8 x c hc]
    cases Nat.beq x.toNat c <;> simp

theorem cmpN_eq : ∀ a b : List UInt8, Lib.compareBytes a b = cmpN (a.map UInt8.toNat) (b.map UInt8.toNat)
  | [], [] => rfl
  | [], _ :: _ => rfl
  | _ :: _, [] => rfl
  | a :: ar, b :: bs => by
    simp only [Lib.compareBytes, List.map_cons, cmpN, cmpN_eq ar bs]
    have h1 : ∀ x y : UInt8, (x < y) ↔ Nat.blt x.toNat y.toNat = true := fun x y => by rw [UInt8.lt_iff_toNat_lt]; simp [Nat.blt]; omega
    by_cases h : a < b
    · rw [if_pos h, (h1 a b).1 h]; rfl
    · rw [if_neg h]
      have : Nat.blt a.toNat b.toNat = false := by cases hh : Nat.blt a.toNat b.toNat with | false => rfl | true => exact absurd ((h1 a b).2 hh) h
      rw [this, cond_false]
      by_cases h' : b < a
      · rw [if_pos h', (h1 b a).1 h']; rfl
      · rw [if_neg h']
        have : Nat.blt b.toNat a.toNat = false := by cases hh : Nat.blt b.toNat a.toNat with | false => rfl | true => exact absurd ((h1 b a).2 hh) h'
        rw [this, cond_false]

section
variable {P : Program} {ng f : Nat} {fn : Func}

/-- A function without a body that gives a value and leaves the memory. -/
theorem does_extern {e : Array Value → Sem Value} (hf : P.funcs[f]? = some fn) (hname : (fn.name == "runtime.NumGoroutine") = false) (hb : fn.body.isNone = true) (hn : Extern.findNext fn = none) (he : Extern.find fn = some e)
    {args : Array Value} {w w' : World} {u : Value} {R : Value → World → Prop} (hr : (e args).run P w = .ok u w') (h : R u w') : Does P f args w R := by
  refine .inl ⟨u, w', ?_, h⟩
  rw [run_callFunc_extern hf hname hb hn he, hr]; rfl

theorem RepL.two {G : Gh} {a b : AV} {us : List Value} (h : RepL G [a, b] us) : ∃ x y, us = [x, y] ∧ RepV G a x ∧ RepV G b y := by
  obtain ⟨hl, hr⟩ := h
  match us, hl with
  | [x, y], _ => exact ⟨x, y, rfl, hr 0 a x rfl rfl, hr 1 b y rfl rfl⟩

theorem RepL.one' {G : Gh} {a : AV} {us : List Value} (h : RepL G [a] us) : ∃ x, us = [x] ∧ RepV G a x := by
  obtain ⟨hl, hr⟩ := h
  match us, hl with
  | [x], _ => exact ⟨x, rfl, hr 0 a x rfl rfl⟩

theorem sp_idxB (hf : P.funcs[f]? = some fn) (hname : (fn.name == "runtime.NumGoroutine") = false) (hb : fn.body.isNone = true) (hn : Extern.findNext fn = none) (he : Extern.find fn = some Extern.BytealgIndexByte.indexByte) :
    SpOk P ng f spIdxB := by
  intro args s v s' G own w us h hR hr
  simp only [spIdxB] at h
  split at h
  · rename_i b c
    cases hc : Nat.blt c 256 with
    | false => rw [hc] at h; cases h
    | true =>
      rw [hc] at h; cases h
      have hc' : c < 256 := by simp [Nat.blt] at hc; omega
      obtain ⟨x, y, rfl, r1, r2⟩ := hr.two
      obtain ⟨z, rfl, hz⟩ := r1.str_inv
      cases r2
      refine does_extern hf hname hb hn he (Lib.run_indexByteString z (Int.ofNat c) w) ⟨G, own, ?_, hR, Gh.le.refl G⟩
      have e : (Int.ofNat c).toNat = c := rfl
      rw [e, idxN_eq c hc', hz]
      exact .int _ _
  · cases h

theorem sp_count (hf : P.funcs[f]? = some fn) (hname : (fn.name == "runtime.NumGoroutine") = false) (hb : fn.body.isNone = true) (hn : Extern.findNext fn = none) (he : Extern.find fn = some Extern.BytealgCount.count) :
    SpOk P ng f spCount := by
  intro args s v s' G own w us h hR hr
  simp only [spCount] at h
  split at h
  · rename_i b c
    cases hc : Nat.blt c 256 with
    | false => rw [hc] at h; cases h
    | true =>
      rw [hc] at h; cases h
      have hc' : c < 256 := by simp [Nat.blt] at hc; omega
      obtain ⟨x, y, rfl, r1, r2⟩ := hr.two
      obtain ⟨z, rfl, hz⟩ := r1.str_inv
      cases r2
      refine does_extern hf hname hb hn he (Lib.run_countString z (Int.ofNat c) w) ⟨G, own, ?_, hR, Gh.le.refl G⟩
      have e : (Int.ofNat c).toNat = c := rfl
      rw [e, cntN_eq c hc', hz]
      exact .int _ _
  · cases h

theorem sp_cmp (hf : P.funcs[f]? = some fn) (hname : (fn.name == "runtime.NumGoroutine") = false) (hb : fn.body.isNone = true) (hn : Extern.findNext fn = none) (he : Extern.find fn = some Extern.BytealgCompare.compare) :
    SpOk P ng f spCmp := by
  intro args s v s' G own w us h hR hr
  simp only [spCmp] at h
  split at h
  · rename_i b c
    cases h
    obtain ⟨x, y, rfl, r1, r2⟩ := hr.two
    obtain ⟨z, rfl, hz⟩ := r1.str_inv
    obtain ⟨z2, rfl, hz2⟩ := r2.str_inv
    refine does_extern hf hname hb hn he (Lib.run_compareString z z2 w) ⟨G, own, ?_, hR, Gh.le.refl G⟩
    rw [cmpN_eq, hz, hz2]
    exact .int _ _
  · cases h

end
end Go.Am

namespace Go.Proofs
open Go.Shelf
def Tryz.lays156_ren : Go.Shelf.Ren := ⟨fun | 156 => 334 | 165 => 368 | 166 => 369 | 169 => 314 | 240 => 353 | 241 => 416 | 276 => 405 | 277 => 434 | n => n, fun | 31 => 23 | 9 => 9 | 3 => 3 | 4 => 4 | 0 => 0 | 20 => 20 | 72 => 377 | 76 => 380 | 70 => 375 | 37 => 54 | 75 => 379 | 127 => 430 | 164 => 455 | 5 => 5 | 80 => 351 | n => n, fun | n => n⟩
theorem Tryz.lays156 : Go.Proofs.Lays.n156 Tryz.prog Tryz.lays156_ren := {
  mixed := by kernel_rfl
  f156 := Tryz.func334.trans (congrArg some (by kernel_rfl))
  f165 := Tryz.func368.trans (congrArg some (by kernel_rfl))
  f166 := Tryz.func369.trans (congrArg some (by kernel_rfl))
  f169 := Tryz.func314.trans (congrArg some (by kernel_rfl))
  f240 := Tryz.func353.trans (congrArg some (by kernel_rfl))
  f241 := Tryz.func416.trans (congrArg some (by kernel_rfl))
  f276 := Tryz.func405.trans (congrArg some (by kernel_rfl))
  f277 := Tryz.func434.trans (congrArg some (by kernel_rfl))
  t0 := Tryz.underlying0
  a0 := Tryz.isAgg0
  z0 := Tryz.sizeOf0
  v0 := Tryz.zeroValue0
  t3 := Tryz.underlying3
  a3 := Tryz.isAgg3
  z3 := Tryz.sizeOf3
  v3 := Tryz.zeroValue3
  t4 := Tryz.underlying4
  a4 := Tryz.isAgg4
  z4 := Tryz.sizeOf4
  v4 := Tryz.zeroValue4
  t9 := Tryz.underlying9
  a9 := Tryz.isAgg9
  z9 := Tryz.sizeOf9
  v9 := Tryz.zeroValue9
  t20 := Tryz.underlying20
  a20 := Tryz.isAgg20
  z20 := Tryz.sizeOf20
  v20 := Tryz.zeroValue20
  t31 := Tryz.underlying23
  a31 := Tryz.isAgg23
  z31 := Tryz.sizeOf23
  v31 := Tryz.zeroValue23
  t37 := Tryz.underlying54
  a37 := Tryz.isAgg54
  z37 := Tryz.sizeOf54
  v37 := Tryz.zeroValue54
  t70 := Tryz.underlying375
  a70 := Tryz.isAgg375
  z70 := Tryz.sizeOf375
  v70 := Tryz.zeroValue375
  t72 := Tryz.underlying377
  a72 := Tryz.isAgg377
  z72 := Tryz.sizeOf377
  v72 := Tryz.zeroValue377
  t75 := Tryz.underlying379
  a75 := Tryz.isAgg379
  z75 := Tryz.sizeOf379
  v75 := Tryz.zeroValue379
  t76 := Tryz.underlying380
  a76 := Tryz.isAgg380
  z76 := Tryz.sizeOf380
  v76 := Tryz.zeroValue380
  t127 := Tryz.underlying430
  a127 := Tryz.isAgg430
  z127 := Tryz.sizeOf430
  v127 := Tryz.zeroValue430
  t164 := Tryz.underlying455
  a164 := Tryz.isAgg455
  z164 := Tryz.sizeOf455
  v164 := Tryz.zeroValue455 }
theorem Tryz.Builder_Extra_156 : Builder.Extra Tryz.prog Tryz.lays156_ren := {
  sizeBuilder := by kernel_rfl
  liesBuilder := by kernel_rfl
  t5 := Tryz.underlying5
  a5 := Tryz.isAgg5
  z5 := Tryz.sizeOf5
  v5 := Tryz.zeroValue5
  infoByte := by kernel_rfl
  cellsByte := by kernel_rfl
  sizeByte := by kernel_rfl
  neB5 := by decide }
def Tryz.lays169_ren : Go.Shelf.Ren := ⟨fun | 169 => 314 | n => n, fun | 70 => 375 | 9 => 9 | 0 => 0 | 72 => 377 | 37 => 54 | 127 => 430 | 3 => 3 | 5 => 5 | n => n, fun | n => n⟩
theorem Tryz.lays169 : Go.Proofs.Lays.n169 Tryz.prog Tryz.lays169_ren := {
  mixed := by kernel_rfl
  f169 := Tryz.func314.trans (congrArg some (by kernel_rfl))
  t0 := Tryz.underlying0
  a0 := Tryz.isAgg0
  z0 := Tryz.sizeOf0
  v0 := Tryz.zeroValue0
  t3 := Tryz.underlying3
  a3 := Tryz.isAgg3
  z3 := Tryz.sizeOf3
  v3 := Tryz.zeroValue3
  t9 := Tryz.underlying9
  a9 := Tryz.isAgg9
  z9 := Tryz.sizeOf9
  v9 := Tryz.zeroValue9
  t37 := Tryz.underlying54
  a37 := Tryz.isAgg54
  z37 := Tryz.sizeOf54
  v37 := Tryz.zeroValue54
  t70 := Tryz.underlying375
  a70 := Tryz.isAgg375
  z70 := Tryz.sizeOf375
  v70 := Tryz.zeroValue375
  t72 := Tryz.underlying377
  a72 := Tryz.isAgg377
  z72 := Tryz.sizeOf377
  v72 := Tryz.zeroValue377
  t127 := Tryz.underlying430
  a127 := Tryz.isAgg430
  z127 := Tryz.sizeOf430
  v127 := Tryz.zeroValue430 }
theorem Tryz.Builder_Extra_169 : Builder.Extra Tryz.prog Tryz.lays169_ren := {
  sizeBuilder := by kernel_rfl
  liesBuilder := by kernel_rfl
  t5 := Tryz.underlying5
  a5 := Tryz.isAgg5
  z5 := Tryz.sizeOf5
  v5 := Tryz.zeroValue5
  infoByte := by kernel_rfl
  cellsByte := by kernel_rfl
  sizeByte := by kernel_rfl
  neB5 := by decide }
def Tryz.laysNm222_ren : Go.Shelf.Ren := ⟨fun | 22 => 238 | 29 => 305 | 30 => 306 | 36 => 350 | 17 => 401 | n => n, fun | 24 => 23 | 9 => 9 | 3 => 3 | 4 => 4 | 0 => 0 | n => n, fun | n => n⟩
theorem Tryz.laysNm222 : Go.Proofs.Lays2.n22 Tryz.prog Tryz.laysNm222_ren := {
  mixed := by kernel_rfl
  f17 := Tryz.func401.trans (congrArg some (by kernel_rfl))
  f22 := Tryz.func238.trans (congrArg some (by kernel_rfl))
  f29 := Tryz.func305.trans (congrArg some (by kernel_rfl))
  f30 := Tryz.func306.trans (congrArg some (by kernel_rfl))
  f36 := Tryz.func350.trans (congrArg some (by kernel_rfl))
  t0 := Tryz.underlying0
  a0 := Tryz.isAgg0
  z0 := Tryz.sizeOf0
  v0 := Tryz.zeroValue0
  t3 := Tryz.underlying3
  a3 := Tryz.isAgg3
  z3 := Tryz.sizeOf3
  v3 := Tryz.zeroValue3
  t4 := Tryz.underlying4
  a4 := Tryz.isAgg4
  z4 := Tryz.sizeOf4
  v4 := Tryz.zeroValue4
  t9 := Tryz.underlying9
  a9 := Tryz.isAgg9
  z9 := Tryz.sizeOf9
  v9 := Tryz.zeroValue9
  t24 := Tryz.underlying23
  a24 := Tryz.isAgg23
  z24 := Tryz.sizeOf23
  v24 := Tryz.zeroValue23
  i9 := by kernel_rfl }
end Go.Proofs

namespace Go.Am

/-- New blocks behind the memory do not matter. -/
theorem Rel.grow {P : Program} {ng : Nat} {s : St} {w w' : World} {G : Gh} {own : Own} (h : Rel P ng s w G own) (hb : Go.RowKit.Below w.heap.size w w') : Rel P ng s w' G own := by
  have hk : ∀ (b : Nat) x, w.heap[b]? = some x → w'.heap[b]? = some x := fun b x e => by
    rw [hb.block b (Array.getElem?_eq_some_iff.1 e).1]; exact e
  have hsz := hb.size
  constructor
  · intro id o hl hu
    exact (h.obj id o hl hu).keep (Gh.le3.refl G) ⟨fun b c ty f e => ⟨c, hk _ _ e, rfl, fun _ _ => rfl⟩, fun b x e _ _ => hk _ _ e⟩ (fun _ _ h => h)
  · intro b j v hv; obtain ⟨c, ty, f, h1, h2⟩ := h.imm b j v hv; exact ⟨c, ty, f, hk _ _ h1, h2⟩
  · intro b n hn; obtain ⟨c, ty, f, h1, h2⟩ := h.bsz b n hn; exact ⟨c, ty, f, hk _ _ h1, h2⟩
  · exact h.disj
  · exact h.ord
  · intro b j id c ty f hj hc
    have hlt := h.ownf b j id hj
    rw [hb.block b hlt] at hc
    exact h.frz b j id c ty f hj hc
  · intro id p hp; have := h.locf id p hp; omega
  · intro b j id hj; have := h.ownf b j id hj; omega
  · exact h.two
  · exact h.suf
  · exact h.nodup
  · exact h.glob
  · exact h.unb
  · exact h.ownu
  · have hlt := h.old.lt
    exact ⟨⟨hb.os.trans h.old.out.1, hb.output.trans h.old.out.2⟩, fun i hi => by rw [hb.block i (by omega)]; exact h.old.mem i hi, h.old.own, by omega⟩

theorem Rel.cell {P : Program} {ng : Nat} {s : St} {w : World} {G : Gh} {own : Own} (h : Rel P ng s w G own) {b j : Nat} {v : Value} (hv : G.imm b j = some v) : w.cell? ⟨b, j, none⟩ = some v := by
  obtain ⟨c, ty, f, h1, h2⟩ := h.imm b j v hv
  simp [World.cell?, h1, h2]

theorem strs_flat : ∀ l : List (List Nat), (l.map AV.str).flatMap AV.cells = l.map AV.str
  | [] => rfl
  | a :: r => by simp only [List.map_cons, List.flatMap_cons, AV.cells, List.cons_append, List.nil_append]; rw [strs_flat r]

theorem joinN_eq (sep : List UInt8) : ∀ l : List (List UInt8), (Lib.join l sep).map UInt8.toNat = joinN (sep.map UInt8.toNat) (l.map (List.map UInt8.toNat))
  | [] => rfl
  | [s] => by rw [Lib.join_one]; rfl
  | s :: t :: r => by
    have ih := joinN_eq sep (t :: r)
    have e : Lib.join (s :: t :: r) sep = s ++ sep ++ Lib.join (t :: r) sep := by simp [Lib.join, List.intercalate, List.intersperse]
    rw [e, List.map_append, List.map_append, ih]
    rfl

theorem strsN_spec : ∀ (xs : List AV) (l : List (List Nat)), strsN xs = some l → xs = l.map AV.str
  | [], l, h => by cases h; rfl
  | a :: r, l, h => by
    cases a <;> simp only [strsN] at h <;> try (cases h; done)
    split at h
    · rename_i l' hl; cases h
      rw [strsN_spec r l' hl]; rfl
    · cases h

/-- The bytes of strings. -/
theorem strs_rep {G : Gh} : ∀ (l : List (List Nat)) (vs : List Value), RepL G (l.map AV.str) vs → ∃ bs : List ByteArray, vs = bs.map Value.string ∧ bs.map (fun b => b.data.toList.map UInt8.toNat) = l
  | [], vs, h => by
    have := h.1; have : vs = [] := by simpa using this.symm
    subst this; exact ⟨[], rfl, rfl⟩
  | s :: r, [], h => by have := h.1; simp at this
  | s :: r, v :: vs, h => by
    obtain ⟨z, rfl, hz⟩ := (h.2 0 (.str s) v rfl rfl).str_inv
    obtain ⟨bs, h1, h2⟩ := strs_rep r vs ⟨by have := h.1; simpa using this, fun i a u x y => h.2 (i + 1) a u (by simpa using x) (by simpa using y)⟩
    exact ⟨z :: bs, by simp [h1], by simp [hz, h2]⟩

theorem sp_join (ng : Nat) : SpOk Go.Proofs.Tryz.prog ng 334 spJoin := by
  intro args s v s' G own w us h hR hr
  simp only [spJoin] at h
  split at h
  · rename_i tag xs sep
    split at h
    · rename_i l hl
      cases hc : (Nat.ble l.length 140737488355328 && Nat.ble (joinN sep l).length 140737488355328) with
      | false => rw [hc] at h; cases h
      | true =>
        rw [hc] at h
        simp only [cond_true, Option.some.injEq, Prod.mk.injEq] at h
        obtain ⟨rfl, rfl⟩ := h
        simp only [Bool.and_eq_true, Nat.ble_eq] at hc
        obtain ⟨x, y, rfl, r1, r2⟩ := hr.two
        obtain ⟨z, rfl, hz⟩ := r2.str_inv
        have hxs := strsN_spec xs l hl
        subst hxs
        have hfl := strs_flat l
        cases r1 with
        | sl _ _ _ b o cap n vs hz0 hs h1 hl' hi hr' hcap hb hn ht1 ht2 =>
          rw [hfl] at hl' hr'
          obtain ⟨bs, rfl, h2⟩ := strs_rep l vs ⟨by simpa using hl'.symm, fun i a v e1 e2 => hr' i a v e1 e2⟩
          have hlen : bs.length = l.length := by rw [← h2]; simp
          obtain ⟨c, ty, f, hbb, hsz⟩ := hR.bsz b n hb
          have hlt : b < w.heap.size := (Array.getElem?_eq_some_iff.1 hbb).1
          have hj : (Lib.join (bs.map (·.data.toList)) z.data.toList).map UInt8.toNat = joinN sep l := by
            rw [joinN_eq, hz, List.map_map]
            congr 1
          have hjl : (Lib.join (bs.map (·.data.toList)) z.data.toList).length = (joinN sep l).length := by rw [← hj, List.length_map]
          have hcalls := Go.Proofs.Any.strings_Join Go.Proofs.Tryz.lays156 Go.Proofs.Tryz.Builder_Extra_156 b o cap bs z w (fun j x hx => by
              refine hR.cell (hi j _ ?_)
              rw [List.getElem?_map, hx]; rfl) hlt (by omega) (by rw [hlen]; simpa using hcap) (by omega)
          refine .inr ⟨334, _, w, Go.Proofs.Tryz.call334 _ w, ?_⟩
          rw [hlen] at hcalls
          have hll : (l.map AV.str).length = l.length := by simp
          rw [hll]
          refine Calls.mono hcalls ?_
          rintro e w' ⟨rfl, hbl⟩
          exact ⟨G, own, .str _ _ hj, hR.grow hbl, Gh.le.refl G⟩
    · cases h
  · cases h

end Go.Am

namespace Go.Proofs
open Go.Shelf Go.RowKit
variable {P : Program} {ρ : Ren}

set_option maxHeartbeats 2000000 in
set_option maxRecDepth 100000 in
theorem rplBuilderString (L : Lays.n169 P ρ) (X : Builder.Extra P ρ) (B b : Nat) (w : World) (c0 : w.cell? ⟨b, 1, none⟩ = some (.slice none 0 0)) :
    Calls P (ρ.f 169) #[.pointer (some ⟨b, 0, none⟩)] w fun e w' => e = .returned (.string ⟨#[]⟩) ∧ Below B w w' := by
  have hUS := Any.unsafeString_none L X
  have c1 : w.drew.cell? ⟨b, 1, none⟩ = some (.slice none 0 0) := c0
  have hSD : (Builtin.unsafeSliceData_ #[(ρ.t 37)] (ρ.t 127) #[.slice none 0 0]).run P w.drew = .ok (.pointer none) w.drew := rfl
  have mixed := L.mixed
  have t72 := L.t72; have a72 := L.a72; have z72 := L.z72; have v72 := L.v72; have u72 := run_underlying L.t72
  have t70 := L.t70; have a70 := L.a70; have z70 := L.z70; have v70 := L.v70; have u70 := run_underlying L.t70
  have t37 := L.t37; have a37 := L.a37; have z37 := L.z37; have v37 := L.v37; have u37 := run_underlying L.t37
  have t127 := L.t127; have a127 := L.a127; have z127 := L.z127; have v127 := L.v127; have u127 := run_underlying L.t127
  have t3 := L.t3; have a3 := L.a3; have z3 := L.z3; have v3 := L.v3; have u3 := run_underlying L.t3
  have t9 := L.t9; have a9 := L.a9; have z9 := L.z9; have v9 := L.v9; have u9 := run_underlying L.t9
  have t5 := X.t5; have a5 := X.a5; have z5 := X.z5; have v5 := X.v5; have u5 := run_underlying X.t5
  go_enter L.f169, Body.n169_ntmps ρ
  go_wp2
  go_region_o
  all_goals (go_wp2; go_ret; exact ⟨rfl, Below.drew (Below.refl B w)⟩)
end Go.Proofs

namespace Go.Am

theorem sp_string (ng : Nat) : SpOk Go.Proofs.Tryz.prog ng 314 spString := by
  intro args s v s' G own w us h hR hr
  simp only [spString] at h
  split at h
  · rename_i id
    split at h
    · rename_i ty a0 hl
      cases h
      obtain ⟨x, rfl, r1⟩ := hr.one'
      cases r1 with
      | ptr _ _ b o hloc =>
        obtain ⟨b', c, f, k1, k2, k3, k4, k5, k6⟩ := hR.objL hl hloc
        rw [hloc] at k1
        cases k1
        have hc1 : c[1]? = some (.slice none 0 0) := by
          have hlen := k3.1
          simp at hlen
          obtain ⟨u, hu⟩ : ∃ u, c[1]? = some u := ⟨c[1], Array.getElem?_eq_getElem (by omega)⟩
          have h2 := k3.2 1 .nsl u rfl (by simp [hu])
          rw [hu]
          cases h2; rfl
        refine .inr ⟨314, _, w, Go.Proofs.Tryz.call314 _ w, ?_⟩
        refine Calls.mono (Go.Proofs.rplBuilderString Go.Proofs.Tryz.lays169 Go.Proofs.Tryz.Builder_Extra_169 w.heap.size b w (by simp [World.cell?, k2, hc1])) ?_
        rintro e w' ⟨rfl, hbl⟩
        exact ⟨G, own, .str _ _ rfl, hR.grow hbl, Gh.le.refl G⟩
    · cases h
  · cases h

end Go.Am

namespace Go.Proofs
open Go.Shelf Go.RowKit

theorem rplCopy {P : Program} (w : World) (dT sT ty elem : TypeId) (z : Nat) (b o dLen dCap : Nat) (a : Addr) (sLen sCap : Nat) (cs : List Value)
    (hu : P.underlying dT = some (.slice elem)) (hs : ∀ w, (Go.sizeOf elem).run P w = .ok z w) (hn : cs.length = Nat.min sLen dLen * z)
    (hsrc : ∀ j v, cs[j]? = some v → w.cell? (a.add j) = some v) (hc : ∀ j, j < cs.length → (w.cell? ⟨b, o + j, none⟩).isSome = true) (hf : ∀ j, j < cs.length → w.frozen? ⟨b, o + j, none⟩ = false) (h1 : ∀ v ∈ cs, v.oneCell' = true) :
    (Builtin.copy_ #[dT, sT] ty #[.slice (some ⟨b, o, none⟩) dLen dCap, .slice (some a) sLen sCap]).run P w = .ok (goInt (Nat.min sLen dLen)) (w.setCells b o cs) := by
  have hl := run_loadCells_list (P := P) w a cs hsrc
  have hst := run_storeCells_cells (P := P) b o cs 0 w (by simpa using hc) (by simpa using hf) h1
  simp [Builtin.copy_, run_underlying hu, Builtin.lenOf, Builtin.firstCells, hs, ← hn, hl, hst]

set_option maxHeartbeats 4000000 in
set_option maxRecDepth 100000 in
theorem rplVarShift (b off c vb voff vc : Nat) (p0 p1 q0 q1 : Value) (w : World) (hroom : 2 ≤ c) (hvb : vb ≠ b)
    (h0 : w.cell? ⟨b, off, none⟩ = some p0) (h1 : w.cell? ⟨b, off + 1, none⟩ = some p1) (hsp : ∀ j, j < 4 → (w.cell? ⟨b, off + j, none⟩).isSome = true) (hfz : ∀ j, j < 4 → w.frozen? ⟨b, off + j, none⟩ = false)
    (k0 : w.cell? ⟨vb, voff, none⟩ = some q0) (k1 : w.cell? ⟨vb, voff + 1, none⟩ = some q1) (o1 : ∀ v ∈ [p0, p1], v.oneCell' = true) (o2 : ∀ v ∈ [q0, q1], v.oneCell' = true)
    (tA tB : TypeId) (kA kB : Nat) (hsa : w.shape? vb = some (tA, kA)) (hsb : w.shape? b = some (tB, kB)) (hkB : kB ≠ 0) (hfa : w.frozen? ⟨vb, voff, none⟩ = false) (hfe : w.frozen? ⟨vb, kA, none⟩ = false) :
    Calls Tryz.prog 196 #[.slice (some ⟨b, off, none⟩) 1 c, .int .i64 0, .slice (some ⟨vb, voff, none⟩) 1 vc] w fun e w' =>
      e = .returned (.slice (some ⟨b, off, none⟩) 2 c) ∧ w' = (w.drew.setCells b (off + 2) [p0, p1]).setCells b off [q0, q1] := by
  have hov : ∀ lb cb, (callFunc 266 #[.slice (some ⟨vb, voff, none⟩) 1 vc, .slice (some ⟨b, off + 2, none⟩) lb cb]).run Tryz.prog w = .ok (.value (.bool false)) w := fun lb cb => by
    rw [run_callFunc_extern Tryz.func266 (by kernel_rfl) (by kernel_rfl) (by kernel_rfl) (e := Extern.SlicesOverlaps.overlaps #[22, 22] #[4]) (by kernel_rfl),
      Lib.run_overlaps_apart w 22 4 39 Tryz.underlying22 2 Tryz.sizeOf39 ⟨vb, voff, none⟩ ⟨b, off + 2, none⟩ 1 vc lb cb hvb tA tB kA kB hsa hsb hkB hfa hfe]
    rfl
  have hcp1 : ∀ ty dc sc, (Builtin.copy_ #[22, 22] ty #[.slice (some ⟨b, off + 2, none⟩) 1 dc, .slice (some ⟨b, off, none⟩) 2 sc]).run Tryz.prog w.drew = .ok (goInt 1) (w.drew.setCells b (off + 2) [p0, p1]) := fun ty dc sc =>
    rplCopy w.drew 22 22 ty 39 2 b (off + 2) 1 dc ⟨b, off, none⟩ 2 sc [p0, p1] Tryz.underlying22 Tryz.sizeOf39 rfl
      (fun j v hj => by
        rw [Addr.add_lit]
        match j, hj with
        | 0, hj => cases hj; exact h0
        | 1, hj => cases hj; exact h1)
      (fun j hj => by rw [Nat.add_assoc]; exact hsp _ (by simp at hj; omega)) (fun j hj => by rw [Nat.add_assoc]; exact hfz _ (by simp at hj; omega)) o1
  obtain ⟨W1, hW1⟩ : ∃ W1, W1 = w.drew.setCells b (off + 2) [p0, p1] := ⟨_, rfl⟩
  have hsp1 : ∀ k, k < 4 → (W1.cell? ⟨b, off + k, none⟩).isSome = true := fun k hk => by
    rw [hW1]
    exact isSome_setCells b _ _ _ (fun j hj => by rw [Nat.add_assoc]; exact hsp _ (by simp at hj; omega)) _ (hsp k hk)
  have hcp2 : ∀ (W : World), (∀ x, W.cell? x = W1.cell? x) → (∀ x, W.frozen? x = W1.frozen? x) → ∀ ty dc, (Builtin.copy_ #[22, 22] ty #[.slice (some ⟨b, off, none⟩) 2 dc, .slice (some ⟨vb, voff, none⟩) 1 vc]).run Tryz.prog W = .ok (goInt 1) (W.setCells b off [q0, q1]) := fun W hWc hWf ty dc =>
    rplCopy W 22 22 ty 39 2 b off 2 dc ⟨vb, voff, none⟩ 1 vc [q0, q1] Tryz.underlying22 Tryz.sizeOf39 rfl
      (fun j v hj => by
        rw [Addr.add_lit, hWc, hW1, World.cell?_setCells_out b _ _ _ _ (fun h _ => absurd h hvb)]
        match j, hj with
        | 0, hj => cases hj; exact k0
        | 1, hj => cases hj; exact k1)
      (fun j hj => by rw [hWc]; exact hsp1 _ (by simp at hj; omega)) (fun j hj => by rw [hWf, hW1, World.frozen?_setCells]; exact hfz _ (by simp at hj; omega)) o2
  rw [← hW1] at hcp1
  have mixed := Tryz.laysNm222.mixed
  have hw1 : IntKind.i64.wrap 1 = 1 := by kernel_rfl
  have hw2 : IntKind.i64.wrap 2 = 2 := by kernel_rfl
  have ht1 : (1 : Int).toNat = 1 := rfl
  have hz1 : ¬ ((c : Int) < 2) := by omega
  have hz2 : ¬ (c = 1) := by omega
  have hz3 : ¬ (c = 0) := by omega
  go_enter Tryz.func196, Tryz.ntmps196
  go_wp2_with (simp only [hov])
  go_region_law_o (refine step_copy_runI rfl _ _ 22 22 rfl _ _ (by simp [Act.eval, Act.put]) (by simp [Act.eval, Act.put]) (hcp1 _ _ _) ?_)
  go_wp2_with (at_builtin; refine wpList_copy_runI _ rfl _ _ 22 22 rfl _ _ rfl rfl (hcp2 _ (fun _ => rfl) (fun _ => rfl) _ _) ?_)
  go_ret
  first | exact ⟨rfl, rfl⟩ | exact ⟨rfl, by rw [hW1]⟩

end Go.Proofs

namespace Go.Proofs
open Go.Shelf Go.RowKit Go.Lib

theorem rplInfo39 : (Tryz.prog.info? 39).map (fun i => (i.zero, i.size, i.bytes)) = some (some (.agg #[.string ⟨#[]⟩, .string ⟨#[]⟩]), 2, 32) := by kernel_rfl

set_option maxHeartbeats 4000000 in
set_option maxRecDepth 100000 in
theorem rplVarGrow (b off c vb voff vc : Nat) (p0 p1 q0 q1 : Value) (w : World) (hc1 : 1 ≤ c) (hroom : c < 2)
    (h0 : w.cell? ⟨b, off, none⟩ = some p0) (h1 : w.cell? ⟨b, off + 1, none⟩ = some p1)
    (k0 : w.cell? ⟨vb, voff, none⟩ = some q0) (k1 : w.cell? ⟨vb, voff + 1, none⟩ = some q1) (o1 : ∀ v ∈ [p0, p1], v.oneCell' = true) (o2 : ∀ v ∈ [q0, q1], v.oneCell' = true) :
    Calls Tryz.prog 196 #[.slice (some ⟨b, off, none⟩) 1 c, .int .i64 0, .slice (some ⟨vb, voff, none⟩) 1 vc] w fun e w' =>
      e = .returned (.slice (some ⟨w.heap.size, 0, none⟩) 2 (grownCap w 2 c 39)) ∧
      w' = (((w.alloc (.cells (#[] ++ Builtin.zeroCells #[.string ⟨#[]⟩, .string ⟨#[]⟩] 2 ++ Builtin.zeroCells #[.string ⟨#[]⟩, .string ⟨#[]⟩] (grownCap w 2 c 39 - 2)) 39)).drew.setCells w.heap.size 0 [q0, q1]).drew).setCells w.heap.size 2 [p0, p1] := by
  have mixed := Tryz.laysNm222.mixed
  obtain ⟨i0, hi0, hz0, hzs, hzb⟩ := info_parts rplInfo39
  have hbw : b < w.heap.size := block_lt_of_cell h0
  have hvw : vb < w.heap.size := block_lt_of_cell k0
  have hc : c = 1 := by omega
  subst hc
  have hold : (Builtin.firstCells i0.size 0 (.slice (some ⟨b, off, none⟩) 0 1)).run Tryz.prog w.drew = .ok #[] w.drew := by
    simp [Builtin.firstCells, loadCells]
    rfl
  have hrz : ∀ ty, (Builtin.append_ #[22, 3] ty #[.slice (some ⟨b, off, none⟩) 0 1, .int .i64 2]).run Tryz.prog w =
      .ok (.slice (some ⟨w.heap.size, 0, none⟩) 2 (grownCap w 2 1 39)) (w.drew.alloc (.cells (#[] ++ Builtin.zeroCells #[.string ⟨#[]⟩, .string ⟨#[]⟩] 2 ++ Builtin.zeroCells #[.string ⟨#[]⟩, .string ⟨#[]⟩] (grownCap w 2 1 39 - 2)) 39)) := fun ty => by
    have h := Lib.run_append_grow_zeros w 22 3 ty 39 i0 _ .i64 .i64 Tryz.underlying22 Tryz.underlying3 hi0 hz0 (some ⟨b, off, none⟩) 0 1 [] hold 2 (by omega) (by omega) (by omega) (by omega) (by rw [hzb]; omega) (by rw [hzb]; exact growslice_fits (by omega) (by omega))
    exact h
  obtain ⟨G, hG⟩ : ∃ G, G = grownCap w 2 1 39 := ⟨_, rfl⟩
  obtain ⟨ROW, hROW⟩ : ∃ ROW : Array Value, ROW = #[] ++ Builtin.zeroCells #[.string ⟨#[]⟩, .string ⟨#[]⟩] 2 ++ Builtin.zeroCells #[.string ⟨#[]⟩, .string ⟨#[]⟩] (G - 2) := ⟨_, rfl⟩
  rw [← hG] at hrz ⊢
  rw [← hROW] at hrz ⊢
  have hRl : 4 ≤ ROW.size := by
    rw [hROW]
    simp [Builtin.zeroCells]
  obtain ⟨W1, hW1⟩ : ∃ W1, W1 = w.drew.alloc (.cells ROW 39) := ⟨_, rfl⟩
  rw [← hW1] at hrz
  have hN : ∀ j, j < 4 → (W1.cell? ⟨w.heap.size, j, none⟩).isSome = true := fun j hj => by
    rw [hW1, World.cell?_alloc_at (w := w.drew) ROW _ w.heap.size j rfl, Array.getElem?_eq_getElem (by omega)]; rfl
  have hNf : ∀ j, W1.frozen? ⟨w.heap.size, j, none⟩ = false := fun j => by rw [hW1]; exact World.frozen?_alloc_at (w := w.drew) ROW _ w.heap.size j rfl
  have hOb : ∀ j v, w.cell? ⟨b, j, none⟩ = some v → W1.cell? ⟨b, j, none⟩ = some v := fun j v h => by rw [hW1, World.cell?_alloc_past (w := w.drew) _ b j hbw]; exact h
  have hOv : ∀ j v, w.cell? ⟨vb, j, none⟩ = some v → W1.cell? ⟨vb, j, none⟩ = some v := fun j v h => by rw [hW1, World.cell?_alloc_past (w := w.drew) _ vb j hvw]; exact h
  have hcpA : ∀ (W : World), (∀ x, W.cell? x = W1.cell? x) → (∀ x, W.frozen? x = W1.frozen? x) → ∀ ty dc, (Builtin.copy_ #[22, 22] ty #[.slice (some ⟨w.heap.size, 0, none⟩) 2 dc, .slice (some ⟨vb, voff, none⟩) 1 vc]).run Tryz.prog W = .ok (goInt 1) (W.setCells w.heap.size 0 [q0, q1]) := fun W hWc hWf ty dc =>
    rplCopy W 22 22 ty 39 2 w.heap.size 0 2 dc ⟨vb, voff, none⟩ 1 vc [q0, q1] Tryz.underlying22 Tryz.sizeOf39 rfl
      (fun j v hj => by
        rw [Addr.add_lit, hWc]
        match j, hj with
        | 0, hj => cases hj; exact hOv _ _ k0
        | 1, hj => cases hj; exact hOv _ _ k1)
      (fun j hj => by rw [hWc]; exact hN _ (by simp at hj; omega)) (fun j hj => by rw [hWf]; exact hNf _) o2
  have hG2 : 2 ≤ G := by rw [hG]; exact grownCap_ge w _ _ _
  have hG63 : G ≤ 9223372036854775807 := by
    have := grownCap_le_maxLen w 2 1 39 (by unfold maxLen; omega)
    rw [← hG] at this
    unfold maxLen at this
    omega
  have hGi : ¬ (G = 0) := by omega
  have hGim : ¬ (G = 1) := by omega
  have hbN : b ≠ w.heap.size := by omega
  have hcpB : ∀ (W : World), (∀ x, W.cell? x = (W1.setCells w.heap.size 0 [q0, q1]).cell? x) → (∀ x, W.frozen? x = (W1.setCells w.heap.size 0 [q0, q1]).frozen? x) → ∀ ty dc sc, (Builtin.copy_ #[22, 22] ty #[.slice (some ⟨w.heap.size, 2, none⟩) 1 dc, .slice (some ⟨b, off, none⟩) 1 sc]).run Tryz.prog W = .ok (goInt 1) (W.setCells w.heap.size 2 [p0, p1]) := fun W hWc hWf ty dc sc =>
    rplCopy W 22 22 ty 39 2 w.heap.size 2 1 dc ⟨b, off, none⟩ 1 sc [p0, p1] Tryz.underlying22 Tryz.sizeOf39 rfl
      (fun j v hj => by
        rw [Addr.add_lit, hWc, World.cell?_setCells_out _ _ _ _ _ (fun h _ => absurd h hbN)]
        match j, hj with
        | 0, hj => cases hj; exact hOb _ _ h0
        | 1, hj => cases hj; exact hOb _ _ h1)
      (fun j hj => by rw [hWc]; exact isSome_setCells _ _ _ _ (fun t ht => hN _ (by simp at ht; omega)) _ (hN _ (by simp at hj; omega)))
      (fun j hj => by rw [hWf, World.frozen?_setCells]; exact hNf _) o1
  subst hW1
  have hE1 : ∀ x, ((w.alloc (.cells ROW 39)).drew).cell? x = (w.drew.alloc (.cells ROW 39)).cell? x := fun x => rfl
  have hE2 : ∀ x, ((w.alloc (.cells ROW 39)).drew).frozen? x = (w.drew.alloc (.cells ROW 39)).frozen? x := fun x => rfl
  have hF1 : ∀ x, (((w.alloc (.cells ROW 39)).drew.setCells w.heap.size 0 [q0, q1]).drew).cell? x = ((w.drew.alloc (.cells ROW 39)).setCells w.heap.size 0 [q0, q1]).cell? x := fun x => rfl
  have hF2 : ∀ x, (((w.alloc (.cells ROW 39)).drew.setCells w.heap.size 0 [q0, q1]).drew).frozen? x = ((w.drew.alloc (.cells ROW 39)).setCells w.heap.size 0 [q0, q1]).frozen? x := fun x => rfl
  have hw1 : IntKind.i64.wrap 1 = 1 := by kernel_rfl
  have hw2 : IntKind.i64.wrap 2 = 2 := by kernel_rfl
  have hw0 : IntKind.i64.wrap 0 = 0 := by kernel_rfl
  have ht1 : (1 : Int).toNat = 1 := rfl
  clear hold hROW hG hRl
  go_enter Tryz.func196, Tryz.ntmps196
  go_wp2_with (first
    | (at_builtin; refine Lib.wpList_append_run _ rfl _ _ _ _ rfl _ _ rfl rfl _ _ (hrz _) ?_)
    | (at_builtin; refine wpList_copy_runI _ rfl _ _ 22 22 rfl _ _ rfl rfl (hcpA _ hE1 hE2 _ _) ?_)
    | (at_builtin; refine wpList_copy_runI _ rfl _ _ 22 22 rfl _ _ rfl rfl (hcpB _ (fun _ => rfl) (fun _ => rfl) _ _ _) ?_))
  go_region_law_o (refine step_copy_runI rfl _ _ 22 22 rfl (.slice (some ⟨w.heap.size, 2, none⟩) 1 (G - 1)) (.slice (some ⟨b, off, none⟩) 1 1) (by simp [Act.eval, Act.put]) (by simp [Act.eval, Act.put]) (hcpB _ hF1 hF2 3 (G - 1) 1) ?_)
  go_wp2
  go_ret
  exact ⟨rfl, rfl⟩

end Go.Proofs

namespace Go.Proofs
open Go.Shelf Go.RowKit

set_option maxHeartbeats 4000000 in
set_option maxRecDepth 100000 in
theorem rplStrShift (b off c vb voff vc : Nat) (p0 p1 q0 : Value) (w : World) (hroom : 3 ≤ c) (hvb : vb ≠ b)
    (h0 : w.cell? ⟨b, off, none⟩ = some p0) (h1 : w.cell? ⟨b, off + 1, none⟩ = some p1) (hsp : ∀ j, j < 3 → (w.cell? ⟨b, off + j, none⟩).isSome = true) (hfz : ∀ j, j < 3 → w.frozen? ⟨b, off + j, none⟩ = false)
    (k0 : w.cell? ⟨vb, voff, none⟩ = some q0) (o1 : ∀ v ∈ [p1], v.oneCell' = true) (o2 : ∀ v ∈ [q0], v.oneCell' = true)
    (tA tB : TypeId) (kA kB : Nat) (hsa : w.shape? vb = some (tA, kA)) (hsb : w.shape? b = some (tB, kB)) (hkB : kB ≠ 0) (hfa : w.frozen? ⟨vb, voff, none⟩ = false) (hfe : w.frozen? ⟨vb, kA, none⟩ = false) :
    Calls Tryz.prog 238 #[.slice (some ⟨b, off, none⟩) 2 c, .int .i64 1, .slice (some ⟨vb, voff, none⟩) 1 vc] w fun e w' =>
      e = .returned (.slice (some ⟨b, off, none⟩) 3 c) ∧ w' = (w.drew.setCells b (off + 2) [p1]).setCells b (off + 1) [q0] := by
  have hov : ∀ lb cb, (callFunc 305 #[.slice (some ⟨vb, voff, none⟩) 1 vc, .slice (some ⟨b, off + 2, none⟩) lb cb]).run Tryz.prog w = .ok (.value (.bool false)) w := fun lb cb => by
    rw [run_callFunc_extern Tryz.func305 (by kernel_rfl) (by kernel_rfl) (by kernel_rfl) (e := Extern.SlicesOverlaps.overlaps #[23, 23] #[4]) (by kernel_rfl),
      Lib.run_overlaps_apart w 23 4 9 Tryz.underlying23 1 Tryz.sizeOf9 ⟨vb, voff, none⟩ ⟨b, off + 2, none⟩ 1 vc lb cb hvb tA tB kA kB hsa hsb hkB hfa hfe]
    rfl
  have hcp1 : ∀ ty dc sc, (Builtin.copy_ #[23, 23] ty #[.slice (some ⟨b, off + 2, none⟩) 1 dc, .slice (some ⟨b, off + 1, none⟩) 2 sc]).run Tryz.prog w.drew = .ok (goInt 1) (w.drew.setCells b (off + 2) [p1]) := fun ty dc sc =>
    rplCopy w.drew 23 23 ty 9 1 b (off + 2) 1 dc ⟨b, off + 1, none⟩ 2 sc [p1] Tryz.underlying23 Tryz.sizeOf9 rfl
      (fun j v hj => by
        rw [Addr.add_lit]
        match j, hj with
        | 0, hj => cases hj; exact h1)
      (fun j hj => by rw [Nat.add_assoc]; exact hsp _ (by simp at hj; omega)) (fun j hj => by rw [Nat.add_assoc]; exact hfz _ (by simp at hj; omega)) o1
  obtain ⟨W1, hW1⟩ : ∃ W1, W1 = w.drew.setCells b (off + 2) [p1] := ⟨_, rfl⟩
  have hsp1 : ∀ k, k < 3 → (W1.cell? ⟨b, off + k, none⟩).isSome = true := fun k hk => by
    rw [hW1]
    exact isSome_setCells b _ _ _ (fun j hj => by rw [Nat.add_assoc]; exact hsp _ (by simp at hj; omega)) _ (hsp k hk)
  have hcp2 : ∀ (W : World), (∀ x, W.cell? x = W1.cell? x) → (∀ x, W.frozen? x = W1.frozen? x) → ∀ ty dc, (Builtin.copy_ #[23, 23] ty #[.slice (some ⟨b, off + 1, none⟩) 2 dc, .slice (some ⟨vb, voff, none⟩) 1 vc]).run Tryz.prog W = .ok (goInt 1) (W.setCells b (off + 1) [q0]) := fun W hWc hWf ty dc =>
    rplCopy W 23 23 ty 9 1 b (off + 1) 2 dc ⟨vb, voff, none⟩ 1 vc [q0] Tryz.underlying23 Tryz.sizeOf9 rfl
      (fun j v hj => by
        rw [Addr.add_lit, hWc, hW1, World.cell?_setCells_out b _ _ _ _ (fun h _ => absurd h hvb)]
        match j, hj with
        | 0, hj => cases hj; exact k0)
      (fun j hj => by rw [hWc, Nat.add_assoc]; exact hsp1 _ (by simp at hj; omega)) (fun j hj => by rw [hWf, hW1, World.frozen?_setCells, Nat.add_assoc]; exact hfz _ (by simp at hj; omega)) o2
  rw [← hW1] at hcp1
  have mixed := Tryz.laysNm222.mixed
  have hw1 : IntKind.i64.wrap 1 = 1 := by kernel_rfl
  have hw2 : IntKind.i64.wrap 2 = 2 := by kernel_rfl
  have ht1 : (1 : Int).toNat = 1 := rfl
  have hz1 : ¬ ((c : Int) < 3) := by omega
  have hz2 : ¬ (c = 1) := by omega
  have hz3 : ¬ (c = 2) := by omega
  have hw3 : IntKind.i64.wrap 3 = 3 := by kernel_rfl
  have ht2 : (2 : Int).toNat = 2 := rfl
  go_enter Tryz.func238, Tryz.ntmps238
  go_wp2_with (simp only [hov])
  go_region_law_o (refine step_copy_runI rfl _ _ 23 23 rfl _ _ (by simp [Act.eval, Act.put]) (by simp [Act.eval, Act.put]) (hcp1 _ _ _) ?_)
  go_wp2_with (at_builtin; refine wpList_copy_runI _ rfl _ _ 23 23 rfl _ _ rfl rfl (hcp2 _ (fun _ => rfl) (fun _ => rfl) _ _) ?_)
  go_ret
  first | exact ⟨rfl, rfl⟩ | exact ⟨rfl, by rw [hW1]⟩

end Go.Proofs

namespace Go.Am

theorem setCells_at {b : Nat} {ty : TypeId} {f : Nat × Nat} : ∀ (vs : List Value) (o : Nat) (W : World) (c : Array Value), W.heap[b]? = some (.cells c ty f) → o + vs.length ≤ c.size →
    (W.setCells b o vs).os = W.os ∧ (W.setCells b o vs).output = W.output ∧ (W.setCells b o vs).heap.size = W.heap.size ∧ (∀ x, x ≠ b → (W.setCells b o vs).heap[x]? = W.heap[x]?) ∧
      ∃ c', (W.setCells b o vs).heap[b]? = some (.cells c' ty f) ∧ c'.size = c.size ∧ ∀ j : Nat, c'[j]? = if o ≤ j ∧ j < o + vs.length then vs[j - o]? else c[j]?
  | [], o, W, c, hb, _ => ⟨rfl, rfl, rfl, fun _ _ => rfl, c, hb, rfl, fun j => by rw [if_neg (by simp)]⟩
  | v :: r, o, W, c, hb, hl => by
    have hlt : b < W.heap.size := (Array.getElem?_eq_some_iff.1 hb).1
    simp only [List.length_cons] at hl
    have h1 : (W.setCell ⟨b, o, none⟩ v).heap[b]? = some (.cells (c.setIfInBounds o v) ty f) := by simp [World.setCell, Array.getElem?_modify, hb]
    obtain ⟨e1, e2, e3, e4, c', e5, e6, e7⟩ := setCells_at r (o + 1) (W.setCell ⟨b, o, none⟩ v) _ h1 (by simp; omega)
    refine ⟨e1, e2, by rw [World.setCells, e3]; simp [World.setCell], fun x hx => ?_, c', e5, by simpa using e6, fun j => ?_⟩
    · rw [World.setCells, e4 x hx]
      simp only [World.setCell]
      rw [Array.getElem?_modify, if_neg (fun e => hx e.symm)]
    · rw [e7 j]
      by_cases h1 : o + 1 ≤ j ∧ j < o + 1 + r.length
      · rw [if_pos h1, if_pos (by simp; omega), show j - o = (j - (o + 1)) + 1 by omega]; rfl
      · rw [if_neg h1, Array.getElem?_setIfInBounds]
        by_cases h2 : o = j
        · subst h2
          rw [if_pos rfl, if_pos (by omega), if_pos (by simp)]; simp
        · rw [if_neg h2, if_neg (by simp; omega)]

section
variable {P : Program} {ng : Nat} {G : Gh} {own : Own} {w w' : World} {s : St}

/-- A growing object is written anew, in its place. -/
theorem arr_rewrite (hR : Rel P ng s w G own) {id b o sz : Nat} {cs cs' : List AV} {c c' : Array Value} {ty : TypeId} {f : Nat × Nat} (hlk : look s.objs id = some (.arr 0 sz cs)) (hloc : G.loc id = some (b, o))
    (hb : w.heap[b]? = some (.cells c ty f)) (ho : w'.os = w.os ∧ w'.output = w.output) (hs : w'.heap.size = w.heap.size) (hx : ∀ x, x ≠ b → w'.heap[x]? = w.heap[x]?) (hb' : w'.heap[b]? = some (.cells c' ty f)) (hsz : c'.size = c.size)
    (hlow : ∀ j : Nat, j < o → c'[j]? = c[j]?) (hr : RepL G cs' ((c'.toList.drop o).take cs'.length)) (h1 : ∀ a ∈ cs', a.one = true) (hl : o + cs'.length ≤ c.size) :
    ∃ H own', H.loc s.next = some (b, o) ∧ Rel P ng ((s.del id).add (.arr 0 sz cs')) w' H own' ∧ G.le H := by
  obtain ⟨b2, o2, c2, ty2, f2, k1, k2, k3, k4, k5, k6, k7⟩ := hR.objL hlk hloc
  rw [hloc] at k1; cases k1
  rw [hb] at k2; cases k2
  have hblt : b < w.heap.size := (Array.getElem?_eq_some_iff.1 hb).1
  have tn : Turn w w' own id := by
    refine ⟨hs, fun x d t g hd => ?_, fun x d t g hd => ?_, fun x y hy hc hn => ?_, ho⟩
    · by_cases e : x = b
      · subst e; rw [hb] at hd; cases hd
        exact ⟨c', hb', hsz, fun j hj => hlow j (by
          rcases Nat.lt_or_ge j o with h | h
          · exact h
          · exact absurd (k6 j (by omega)) hj)⟩
      · exact ⟨d, by rw [hx x e]; exact hd, rfl, fun _ _ => rfl⟩
    · by_cases e : x = b
      · subst e; rw [hb'] at hd; cases hd; exact ⟨c, hb⟩
      · exact ⟨d, by rw [hx x e] at hd; exact hd⟩
    · by_cases e : x = b
      · subst e; rw [hb] at hy; cases hy; cases hc
      · rw [hx x e]; exact hy
  have hrel := hR.turn hlk tn (fun _ _ => none) (some (b, o)) (fun b' j => decide (b' = b ∧ o ≤ j)) (some (.arr 0 sz cs'))
    (fun b' j v h1 h2 => by cases h2) (fun b' i j v _ h2 _ _ => by cases h2)
    (fun b' i j _ h1 h2 => by have := of_decide_eq_true h1; exact decide_eq_true ⟨this.1, by omega⟩) (fun p hp => by cases hp; exact hblt) (fun _ => rfl)
    (fun x hx => by
      cases hx
      have hle := hR.turn_le id (fun _ _ => none) (some (b, o))
      refine ⟨b, o, c', ty, f, by simp [Gh.turn], hb', by omega, hr.mono hle, h1, fun j hj => ?_, fun j h1 h2 h3 => by omega⟩
      have ho := k6 j (by omega)
      simp only [Own.turn, if_pos ho]
      exact if_pos (decide_eq_true ⟨trivial, by omega⟩))
  exact ⟨_, _, by simp [Gh.turn], hrel, hR.turn_le id _ _⟩

end

/-- A literal slice and a growing object lie in blocks of their own. -/
theorem lit_apart {P : Program} {ng : Nat} {G : Gh} {own : Own} {w : World} {s : St} (hR : Rel P ng s w G own) {id tg b o vb e sz : Nat} {cs : List AV} {ty : TypeId} (hlk : look s.objs id = some (.arr 0 sz cs)) (hloc : G.loc id = some (b, o))
    (htg : look s.objs tg = some (.tail ty)) (hvl : G.loc tg = some (vb, e)) :
    vb ≠ b ∧ ∃ c f, w.heap[vb]? = some (.cells c ty f) ∧ f.2 = 0 ∧ e ≤ c.size := by
  obtain ⟨b2, o2, c2, ty2, f2, k1, k2, k3, k4, k5, k6, k7⟩ := hR.objL hlk hloc
  rw [hloc] at k1; cases k1
  obtain ⟨b3, e3, c3, f3, m1, m2, m3, m4, m5⟩ := hR.objL htg hvl
  rw [hvl] at m1; cases m1
  refine ⟨?_, c3, f3, m2, m5, m3⟩
  rintro rfl
  have h1 := k6 (Nat.max o e) (Nat.le_trans (by omega) (Nat.le_max_left _ _))
  have h2 := m4 (Nat.max o e) (Nat.le_max_right _ _)
  rw [h1] at h2
  cases h2
  rw [hlk] at htg; cases htg

theorem RepL.three {G : Gh} {a b c : AV} {us : List Value} (h : RepL G [a, b, c] us) : ∃ x y z, us = [x, y, z] ∧ RepV G a x ∧ RepV G b y ∧ RepV G c z := by
  obtain ⟨hl, hr⟩ := h
  match us, hl with
  | [x, y, z], _ => exact ⟨x, y, z, rfl, hr 0 a x rfl rfl, hr 1 b y rfl rfl, hr 2 c z rfl rfl⟩

theorem cell_at {w : World} {b : Nat} {c : Array Value} {ty : TypeId} {f : Nat × Nat} (hb : w.heap[b]? = some (.cells c ty f)) (j : Nat) : w.cell? ⟨b, j, none⟩ = c[j]? := by simp [World.cell?, hb]

theorem RepV.oneC {G : Gh} {a : AV} {v : Value} (h : RepV G a v) (h1 : a.one = true) : v.oneCell' = true := by
  cases h <;> first | rfl | cases h1

theorem list4 {α : Type} {l : List α} {o : Nat} {p0 p1 p2 p3 : α} (h0 : l[o]? = some p0) (h1 : l[o + 1]? = some p1) (h2 : l[o + 2]? = some p2) (h3 : l[o + 3]? = some p3) : (l.drop o).take 4 = [p0, p1, p2, p3] := by
  apply List.ext_getElem?
  intro i
  rw [List.getElem?_take]
  match i with
  | 0 => simp [h0]
  | 1 => simp [h1]
  | 2 => simp [h2]
  | 3 => simp [h3]
  | n + 4 => rw [if_neg (by omega)]; rfl

theorem list3 {α : Type} {l : List α} {o : Nat} {p0 p1 p2 : α} (h0 : l[o]? = some p0) (h1 : l[o + 1]? = some p1) (h2 : l[o + 2]? = some p2) : (l.drop o).take 3 = [p0, p1, p2] := by
  apply List.ext_getElem?
  intro i
  rw [List.getElem?_take]
  match i with
  | 0 => simp [h0]
  | 1 => simp [h1]
  | 2 => simp [h2]
  | n + 3 => rw [if_neg (by omega)]; rfl

theorem RepL.mk2 {G : Gh} {a b : AV} {x y : Value} (h : RepV G a x) (k : RepV G b y) : RepL G [a, b] [x, y] := by
  refine ⟨rfl, fun i p q h1 h2 => ?_⟩
  match i with
  | 0 => cases h1; cases h2; exact h
  | 1 => cases h1; cases h2; exact k
  | n + 2 => cases h1

theorem sp_insV (ng : Nat) : SpOk Go.Proofs.Tryz.prog ng 196 spInsV := by
  intro args s v s' G own w us h hR hr
  simp only [spInsV] at h
  split at h
  case h_2 => cases h
  rename_i id tg y0 y1
  split at h
  case h_2 => cases h
  rename_i a0 a1 tyv hlk htl
  cases hc : Nat.ble 2 tg with
  | false => rw [hc] at h; cases h
  | true =>
  rw [hc] at h
  simp only [cond_true, Option.some.injEq, Prod.mk.injEq] at h
  obtain ⟨rfl, rfl⟩ := h
  have htg : 2 ≤ tg := Nat.le_of_ble_eq_true hc
  obtain ⟨x, y, z, rfl, r1, r2, r3⟩ := hr.three
  cases r2
  cases r1 with
  | hsl _ _ _ _ b o cap n hz hloc hcap hbz hn =>
  cases r3 with
  | sl _ _ _ vb voff vcap vn vs vz vhs v1 vl vi vr vc vbs vn2 vt1 vt2 =>
  have hvl := vt2 htg
  obtain ⟨hapart, cv, fv, hcv, hfv, hev⟩ := lit_apart hR hlk hloc htl hvl
  obtain ⟨b2, o2, c, ty, f, k1, k2, k3, k4, k5, k6, k7⟩ := hR.objL hlk hloc
  rw [hloc] at k1; cases k1
  obtain ⟨c2, ty2, f2, j1, j2⟩ := hR.bsz _ _ hbz
  rw [k2] at j1; cases j1
  have hfr := hR.frz b o id c ty f (k6 o (by omega)) k2
  have hrv : RepL G [y0, y1] vs := ⟨vl.symm, fun i a v e1 e2 => vr i a v e1 e2⟩
  obtain ⟨q0, q1, rfl, rq0, rq1⟩ := hrv.two
  obtain ⟨p0, p1, hp, rp0, rp1⟩ := k4.two
  have hsz2 : o + 2 ≤ c.size := k3
  have hc0 : c[o]? = some p0 := by
    have : ((c.toList.drop o).take 2)[0]? = some p0 := by rw [show (2 : Nat) = [a0, a1].length from rfl, hp]; rfl
    simpa using this
  have hc1 : c[o + 1]? = some p1 := by
    have : ((c.toList.drop o).take 2)[1]? = some p1 := by rw [show (2 : Nat) = [a0, a1].length from rfl, hp]; rfl
    simpa using this
  have hq0 : w.cell? ⟨vb, voff, none⟩ = some q0 := by have := hR.cell (vi 0 q0 rfl); simpa using this
  have hq1 : w.cell? ⟨vb, voff + 1, none⟩ = some q1 := hR.cell (vi 1 q1 rfl)
  have ones : a0.one = true ∧ a1.one = true := ⟨k5 _ (by simp), k5 _ (by simp)⟩
  have onesv : y0.one = true ∧ y1.one = true := ⟨v1 (.agg [y0, y1]) (by simp) y0 (by simp [AV.cells]), v1 (.agg [y0, y1]) (by simp) y1 (by simp [AV.cells])⟩
  have o1 : ∀ v ∈ [p0, p1], v.oneCell' = true := by
    intro v hv; simp at hv; rcases hv with rfl | rfl
    · exact rp0.oneC ones.1
    · exact rp1.oneC ones.2
  have o2 : ∀ v ∈ [q0, q1], v.oneCell' = true := by
    intro v hv; simp at hv; rcases hv with rfl | rfl
    · exact rq0.oneC onesv.1
    · exact rq1.oneC onesv.2
  refine .inr ⟨196, _, w, Go.Proofs.Tryz.call196 _ w, ?_⟩
  have hlen1 : [AV.agg [y0, y1]].length = 1 := rfl
  rw [hlen1]
  have hoff : o + 0 * 2 = o := by omega
  rw [hoff]
  rcases Nat.lt_or_ge cap 2 with hcap2 | hcap2
  · refine Calls.mono (Go.Proofs.rplVarGrow b o cap vb voff vcap p0 p1 q0 q1 w (by omega) hcap2 (by rw [cell_at k2]; exact hc0) (by rw [cell_at k2]; exact hc1) hq0 hq1 o1 o2) ?_
    rintro e w' ⟨rfl, hw'⟩
    generalize hrow : (#[] ++ Builtin.zeroCells #[.string ⟨#[]⟩, .string ⟨#[]⟩] 2 ++ Builtin.zeroCells #[.string ⟨#[]⟩, .string ⟨#[]⟩] (grownCap w 2 cap 39 - 2) : Array Value) = ROW at hw'
    have hge := grownCap_ge w 2 cap 39
    have hrs : ROW.size = grownCap w 2 cap 39 * 2 := by rw [← hrow]; simp [Builtin.zeroCells]; omega
    have hW0 : ((w.alloc (.cells ROW 39)).drew).heap[w.heap.size]? = some (.cells ROW 39) := by
      show (w.heap.push (.cells ROW 39))[w.heap.size]? = _
      simp
    obtain ⟨e1, e2, e3, e4, c', e5, e6, e7⟩ := setCells_at (b := w.heap.size) [q0, q1] 0 ((w.alloc (.cells ROW 39)).drew) ROW hW0 (by simp; omega)
    have hW1 : ((((w.alloc (.cells ROW 39)).drew).setCells w.heap.size 0 [q0, q1]).drew).heap[w.heap.size]? = some (.cells c' 39) := e5
    obtain ⟨g1, g2, g3, g4, c3, g5, g6, g7⟩ := setCells_at (b := w.heap.size) [p0, p1] 2 _ c' hW1 (by simp; omega)
    rw [← hw'] at g1 g2 g3 g4 g5
    have hheap : w'.heap = w.heap.push (.cells c3 39) := by
      apply Array.ext_getElem?
      intro x
      by_cases hx : x = w.heap.size
      · subst hx; rw [g5]; simp
      · rw [g4 x hx]
        show ((((w.alloc (.cells ROW 39)).drew).setCells w.heap.size 0 [q0, q1])).heap[x]? = _
        rw [e4 x hx, Array.getElem?_push, if_neg hx]
        show (w.heap.push _)[x]? = _
        rw [Array.getElem?_push, if_neg hx]
    have hlist : c3.toList.take 4 = [q0, q1, p0, p1] := by
      have := list4 (l := c3.toList) (o := 0) (p0 := q0) (p1 := q1) (p2 := p0) (p3 := p1)
        (by rw [Array.getElem?_toList, g7, if_neg (by simp), e7, if_pos (by simp)]; rfl) (by rw [Array.getElem?_toList, g7, if_neg (by simp), e7, if_pos (by simp)]; rfl)
        (by rw [Array.getElem?_toList, g7, if_pos (by simp)]; rfl) (by rw [Array.getElem?_toList, g7, if_pos (by simp)]; rfl)
      simpa using this
    have hR1 : Rel Go.Proofs.Tryz.prog ng (s.del id) w G own := hR.forget del_sub
    obtain ⟨H, own', n1, n2, n3⟩ := new_arr (xs := [.agg [y0, y1], .agg [a0, a1]]) (z := 2) (e := 39) (f := 0) hR1 (by omega) (by intro x hx; simp at hx; rcases hx with rfl | rfl <;> exact ⟨rfl, rfl⟩)
      (by intro x hx a ha; simp at hx; rcases hx with rfl | rfl
          · simp [AV.cells] at ha; rcases ha with rfl | rfl; exact onesv.1; exact onesv.2
          · simp [AV.cells] at ha; rcases ha with rfl | rfl; exact ones.1; exact ones.2)
      (c := c3) (cap := grownCap w 2 cap 39) (by rw [g6, e6, hrs]) (by simpa using hge) (by omega)
      (by
        show RepL G [y0, y1, a0, a1] (c3.toList.take 4)
        rw [hlist]
        exact (RepL.mk2 rq0 rq1).append (RepL.mk2 rp0 rp1)) w' hheap rfl ⟨g1.trans e1, g2.trans e2⟩
    exact ⟨H, own', n1, n2, n3⟩
  · have hn' : o + cap * 2 ≤ c.size := by omega
    have hsp : ∀ j, j < 4 → (w.cell? ⟨b, o + j, none⟩).isSome = true := fun j hj => by
      rw [cell_at k2, Array.getElem?_eq_getElem (by omega)]; rfl
    have hfz : ∀ j, j < 4 → w.frozen? ⟨b, o + j, none⟩ = false := fun j hj => by
      simp [World.frozen?, k2]; omega
    refine Calls.mono (Go.Proofs.rplVarShift b o cap vb voff vcap p0 p1 q0 q1 w hcap2 hapart (by rw [cell_at k2]; exact hc0) (by rw [cell_at k2]; exact hc1) hsp hfz hq0 hq1 o1 o2 _ _ cv.size c.size
      (by simp [World.shape?, hcv]; rfl) (by simp [World.shape?, k2]; rfl) (by omega) (by simp [World.frozen?, hcv, hfv]) (by simp [World.frozen?, hcv, hfv])) ?_
    rintro e w' ⟨rfl, hw'⟩
    have hW0 : w.drew.heap[b]? = some (.cells c ty f) := k2
    obtain ⟨e1, e2, e3, e4, c', e5, e6, e7⟩ := setCells_at (b := b) [p0, p1] (o + 2) w.drew c hW0 (by simp; omega)
    obtain ⟨g1, g2, g3, g4, c3, g5, g6, g7⟩ := setCells_at (b := b) [q0, q1] o _ c' e5 (by simp; omega)
    rw [← hw'] at g1 g2 g3 g4 g5
    have hlist : (c3.toList.drop o).take 4 = [q0, q1, p0, p1] :=
      list4 (by rw [Array.getElem?_toList, g7, if_pos (by simp)]; simp) (by rw [Array.getElem?_toList, g7, if_pos (by simp)]; simp)
        (by rw [Array.getElem?_toList, g7, if_neg (by simp), e7, if_pos (by simp)]; simp) (by rw [Array.getElem?_toList, g7, if_neg (by simp), e7, if_pos (by simp)]; simp)
    obtain ⟨H, own', m1, m2, m3⟩ := arr_rewrite (w' := w') (cs' := [y0, y1, a0, a1]) (c' := c3) hR hlk hloc k2 ⟨g1.trans e1, g2.trans e2⟩ (g3.trans e3) (fun x hx => (g4 x hx).trans (e4 x hx)) g5 (g6.trans e6)
      (fun j hj => by rw [g7, if_neg (by simp; omega), e7, if_neg (by simp; omega)])
      (by show RepL G [y0, y1, a0, a1] ((c3.toList.drop o).take 4); rw [hlist]; exact (RepL.mk2 rq0 rq1).append (RepL.mk2 rp0 rp1))
      (by intro a ha; simp at ha; rcases ha with rfl | rfl | rfl | rfl; exact onesv.1; exact onesv.2; exact ones.1; exact ones.2) (by simp; omega)
    refine ⟨H, own', ?_, m2, m3⟩
    have := RepV.hsl (G := H) s.next 0 2 2 b o cap c.size (by omega) m1 hcap2 (m3.bsz _ _ (by rw [hbz, j2])) (by omega)
    simpa using this

end Go.Am

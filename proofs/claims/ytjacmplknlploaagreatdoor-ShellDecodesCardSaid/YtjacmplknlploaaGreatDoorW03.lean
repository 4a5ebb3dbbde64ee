/- The comparison of structs whose cells are truth values, integers and strings. Operations that neither read nor write an object. -/
import Derived.Test.YtjacmplknlploaaGreatDoorW02
import Derived.Laws.StructEq
set_option linter.all false
namespace Go.Am

theorem str_beq {x y : ByteArray} : (x == y) = decide (x.data.toList.map UInt8.toNat = y.data.toList.map UInt8.toNat) := by
  have hb : (x == y) = (x.data == y.data) := by cases x; cases y; rfl
  rw [hb, Bool.eq_iff_iff, decide_eq_true_iff, beq_iff_eq]
  exact ⟨fun e => by rw [e], fun e => Array.ext' (map_toNat_inj e)⟩

theorem cmpCells_append : ∀ {s1 s2 : List LK} {a b : List AV} {r : Bool}, cmpCells (s1 ++ s2) a b = some r →
    ∃ r1 r2, cmpCells s1 (a.take s1.length) (b.take s1.length) = some r1 ∧ cmpCells s2 (a.drop s1.length) (b.drop s1.length) = some r2 ∧ r = (r1 && r2) ∧ s1.length ≤ a.length ∧ s1.length ≤ b.length
  | [], s2, a, b, r, h => ⟨true, r, by simp [cmpCells], by simpa using h, by simp, by simp, by simp⟩
  | l :: s1, s2, [], b, r, h => by simp [cmpCells] at h
  | l :: s1, s2, _ :: _, [], r, h => by simp [cmpCells] at h
  | l :: s1, s2, a :: x, b :: y, r, h => by
    simp only [List.cons_append, cmpCells] at h
    split at h
    · rename_i r0 h0
      split at h
      · rename_i q hq
        cases h
        obtain ⟨r1, r2, e1, e2, e3, e4, e5⟩ := cmpCells_append hq
        refine ⟨r0 && r1, r2, by simp [cmpCells, h0, e1], by simpa using e2, by rw [e3, Bool.and_assoc], by simp; omega, by simp; omega⟩
      · cases h
    · cases h

theorem cmpCells_len : ∀ {sh : List LK} {a b : List AV} {r : Bool}, cmpCells sh a b = some r → a.length = sh.length ∧ b.length = sh.length
  | [], [], [], _, _ => ⟨rfl, rfl⟩
  | [], [], _ :: _, _, h => by simp [cmpCells] at h
  | [], _ :: _, _, _, h => by simp [cmpCells] at h
  | _ :: _, [], _, _, h => by simp [cmpCells] at h
  | _ :: _, _ :: _, [], _, h => by simp [cmpCells] at h
  | l :: sh, a :: x, b :: y, r, h => by
    simp only [cmpCells] at h
    split at h
    · split at h
      · rename_i q hq
        have := cmpCells_len hq
        exact ⟨by simp [this.1], by simp [this.2]⟩
      · cases h
    · cases h

section
variable {P : Program} {G : Gh} {w : World}

/-- A value of a type, by its cells. -/
def ValOf (P : Program) (t : TypeId) (A : AV) : Prop := match kOf P t with
  | some none => A.one = true
  | some (some _) => ∃ cs, A = .agg cs
  | none => False

theorem leaf_b {e : Nat} {t : TypeId} (hu : P.underlying t = some .bool) {A B : AV} {x y : Value} {r : Bool} (h : cmpCell .b A B = some r) (hA : RepV G A x) (hB : RepV G B y) :
    (Op.equalIn (e + 1) t x y).run P w = .ok r w := by
  cases A <;> cases B <;> simp [cmpCell] at h
  cases hA; cases hB; subst h
  exact run_equalIn_bool' w e t _ _ hu
theorem leaf_i {e : Nat} {t : TypeId} {k : IntKind} (hu : P.underlying t = some (.int k)) {A B : AV} {x y : Value} {r : Bool} (h : cmpCell .i A B = some r) (hA : RepV G A x) (hB : RepV G B y) :
    (Op.equalIn (e + 1) t x y).run P w = .ok r w := by
  cases A <;> cases B <;> simp [cmpCell] at h
  obtain ⟨rfl, rfl⟩ := h
  cases hA; cases hB
  rw [run_equalIn_int w e t _ _ _ _ hu]; rfl
theorem leaf_s {e : Nat} {t : TypeId} (hu : P.underlying t = some .string) {A B : AV} {x y : Value} {r : Bool} (h : cmpCell .s A B = some r) (hA : RepV G A x) (hB : RepV G B y) :
    (Op.equalIn (e + 1) t x y).run P w = .ok r w := by
  cases A <;> cases B <;> simp [cmpCell] at h
  cases hA with
  | str _ x hx =>
    cases hB with
    | str _ y hy =>
      subst h
      rw [run_equalIn_string w e t _ _ hu, ← beq_toListBytes, str_beq, hx, hy]

theorem kOf_leaf {t : TypeId} {d : TypeDesc} (hu : P.underlying t = some d) (h : d = .bool ∨ (∃ k, d = .int k) ∨ d = .string) : kOf P t = some none := by
  unfold kOf; rw [hu]
  rcases h with rfl | ⟨k, rfl⟩ | rfl <;> rfl

theorem fields_equal {e : Nat} {g : TypeId → Option (List LK)} (ih : ∀ t sh, g t = some sh → ∀ (A B : AV) (x y : Value) (r : Bool), ValOf P t A → ValOf P t B → RepV G A x → RepV G B y → cmpCells sh A.cells B.cells = some r →
      (Op.equalIn e t x y).run P w = .ok r w) : ∀ (fs : List Field) (n : Nat) (sh : List LK) (cs ds : List AV) (xs ys : Array Value) (r : Bool), flatFs P g fs n = some sh → RepL G cs xs.toList → RepL G ds ys.toList →
      (∀ a ∈ cs, a.one = true) → (∀ a ∈ ds, a.one = true) → cmpCells sh (cs.drop n) (ds.drop n) = some r → (Op.eqFields e xs ys fs).run P w = .ok r w
  | [], n, sh, cs, ds, xs, ys, r, h, hc, hd, h1, h2, he => by
    simp [flatFs] at h; subst h
    have : r = true := by
      generalize cs.drop n = a at he
      generalize ds.drop n = b at he
      cases a <;> cases b <;> simp [cmpCells] at he <;> exact he
    subst this
    simp [Op.eqFields]
  | f :: fs, n, sh, cs, ds, xs, ys, r, h, hc, hd, h1, h2, he => by
    simp only [flatFs] at h
    split at h
    case isFalse => cases h
    rename_i hf
    obtain ⟨hoff, hname⟩ := hf
    split at h
    case h_2 => cases h
    rename_i sh1 k hg hk
    split at h
    case isFalse => cases h
    rename_i hsz
    obtain ⟨hsz, hone⟩ := hsz
    split at h
    case h_2 => cases h
    rename_i sh2 hr
    cases h
    obtain ⟨r1, r2, e1, e2, e3, e4, e5⟩ := cmpCells_append he
    subst hoff
    have key : ∀ (cs : List AV) (xs : Array Value), RepL G cs xs.toList → (∀ a ∈ cs, a.one = true) → sh1.length ≤ (cs.drop f.offset).length →
        ∃ A u, (part f.type xs f.offset).run P w = .ok u w ∧ RepV G A u ∧ ValOf P f.type A ∧ A.cells = (cs.drop f.offset).take sh1.length := by
      intro cs xs hc h1 hle
      cases k with
      | none =>
        have hl1 := hone rfl
        rw [hl1] at hle ⊢
        obtain ⟨a, rest, hdr⟩ : ∃ a rest, cs.drop f.offset = a :: rest := by
          cases hdr : cs.drop f.offset with
          | nil => rw [hdr] at hle; simp at hle
          | cons a rest => exact ⟨a, rest, rfl⟩
        obtain ⟨u, hu, hu2⟩ := part_run (w := w) hk hc h1 (off := f.offset) (v := a) (by rw [hdr]; rfl)
        have ha : a.one = true := h1 a (List.mem_of_mem_drop (by rw [hdr]; simp))
        refine ⟨a, u, hu, hu2, ?_, ?_⟩
        · unfold ValOf; rw [hk]; exact ha
        · rw [hdr, AV.one_cells ha]; simp
      | some m =>
        have hm : m = sh1.length := by
          have := (run_isAgg_true hk w).2
          rw [hsz] at this; exact (Option.some.inj this).symm
        subst hm
        obtain ⟨u, hu, hu2⟩ := part_run (w := w) hk hc h1 (off := f.offset) (v := .agg ((cs.drop f.offset).take sh1.length)) (by simp only [take]; rw [if_pos hle])
        refine ⟨_, u, hu, hu2, ?_, rfl⟩
        unfold ValOf; rw [hk]; exact ⟨_, rfl⟩
    obtain ⟨A, x, p1, p2, p3, p4⟩ := key cs xs hc h1 e4
    obtain ⟨B, y, q1, q2, q3, q4⟩ := key ds ys hd h2 e5
    have hi := ih f.type sh1 hg A B x y r1 p3 q3 p2 q2 (by rw [p4, q4]; exact e1)
    have hrest := fields_equal ih fs (f.offset + sh1.length) sh2 cs ds xs ys r2 hr hc hd h1 h2 (by simpa [List.drop_drop] using e2)
    simp only [Op.eqFields, hname, ne_eq, not_false_eq_true, if_true, Sem.run_bind, p1, q1, hi, Result.andThen_ok]
    cases r1
    · simp [e3]
    · simp [e3, hrest]

theorem flat_equal : ∀ (d e : Nat) (t : TypeId) (sh : List LK), flatN P d t = some sh → ∀ (A B : AV) (x y : Value) (r : Bool), ValOf P t A → ValOf P t B → RepV G A x → RepV G B y → cmpCells sh A.cells B.cells = some r →
      (Op.equalIn (e + d) t x y).run P w = .ok r w
  | 0, e, t, sh, h, A, B, x, y, r, vA, vB, hA, hB, hc => by simp [flatN] at h
  | d + 1, e, t, sh, h, A, B, x, y, r, vA, vB, hA, hB, hc => by
    have one : ∀ {D : TypeDesc} {l : LK}, P.underlying t = some D → (D = .bool ∨ (∃ k, D = .int k) ∨ D = .string) → sh = [l] → cmpCell l A B = some r := by
      intro D l hu hD hsh
      subst hsh
      unfold ValOf at vA vB
      rw [kOf_leaf hu hD] at vA vB
      rw [AV.one_cells vA, AV.one_cells vB] at hc
      simp only [cmpCells] at hc
      split at hc
      · rename_i q hq; simp at hc; subst hc; exact hq
      · cases hc
    simp only [flatN] at h
    split at h
    · rename_i hu; cases h; exact leaf_b hu (one hu (.inl rfl) rfl) hA hB
    · rename_i k hu; cases h; exact leaf_i hu (one hu (.inr (.inl ⟨_, rfl⟩)) rfl) hA hB
    · rename_i hu; cases h; exact leaf_s hu (one hu (.inr (.inr rfl)) rfl) hA hB
    · rename_i fs hu
      split at h
      · cases h
      · rename_i hst
        have hk : ∃ k, kOf P t = some (some k) := by
          unfold ValOf at vA
          cases hk : kOf P t with
          | none => rw [hk] at vA; exact vA.elim
          | some o =>
            cases o with
            | some k => exact ⟨k, rfl⟩
            | none => unfold kOf at hk; rw [hu] at hk; simp at hk
        obtain ⟨k, hk⟩ := hk
        unfold ValOf at vA vB
        rw [hk] at vA vB
        obtain ⟨cs, rfl⟩ := vA
        obtain ⟨ds, rfl⟩ := vB
        cases hA with
        | agg _ xs hl1 h1 hr1 =>
          cases hB with
          | agg _ ys hl2 h2 hr2 =>
            have hfs : P.fieldsOf t = fs := by simp [Program.fieldsOf, hu]
            rw [show e + (d + 1) = (e + d) + 1 from rfl, run_equalIn_struct w (e + d) t xs ys (by rw [hfs]; exact hu) (by simpa using hst), hfs]
            exact fields_equal (fun t sh h => flat_equal d e t sh h) fs.toList 0 sh cs ds xs ys r h ⟨by simpa using hl1, fun i a v x y => hr1 i a v x (by simpa using y)⟩
              ⟨by simpa using hl2, fun i a v x y => hr2 i a v x (by simpa using y)⟩ h1 h2 (by simpa [AV.cells] using hc)
    · cases h

theorem flatOf_spec {t : TypeId} {sh : List LK} (h : flatOf P t = some sh) : P.eqGuardType P.depth t = false ∧ flatN P 8 t = some sh ∧ szOf P t = some sh.length := by
  unfold flatOf at h
  split at h
  · cases h
  · rename_i hg
    split at h
    · rename_i s hs
      split at h
      · rename_i hz; cases h; exact ⟨by simpa using hg, hs, hz⟩
      · cases h
    · cases h

theorem equal_agg {t : TypeId} {fs : Array Field} {sh : List LK} (hu : P.underlying t = some (.struct fs)) (h : flatOf P t = some sh) {cs ds : List AV} {x y : Value} {r : Bool} (hA : RepV G (.agg cs) x) (hB : RepV G (.agg ds) y)
    (hc : cmpCells sh cs ds = some r) : (Op.equal t x y).run P w = .ok r w := by
  obtain ⟨_, h2, h3⟩ := flatOf_spec h
  have hv : ∀ cs, ValOf P t (.agg cs) := by
    intro cs
    unfold ValOf
    have : kOf P t = some (some sh.length) := by unfold kOf; rw [hu]; simp [h3]
    rw [this]; exact ⟨cs, rfl⟩
  exact flat_equal 8 9992 t sh h2 _ _ x y r (hv cs) (hv ds) hA hB hc

/-- What is asked of a key's type. -/
def KeyOk (P : Program) (k : TypeId) : KK → Prop
  | .int => ∃ q, P.underlying k = some (.int q)
  | .str => P.underlying k = some .string
  | .agg sh => (∃ fs, P.underlying k = some (.struct fs)) ∧ flatOf P k = some sh

theorem key_equal {k : TypeId} {kk : KK} (hk : KeyOk P k kk) {A B : AV} {x y : Value} {r : Bool} (hA : RepV G A x) (hB : RepV G B y) (hc : cmpKey kk A B = some r) : (Op.equal k x y).run P w = .ok r w := by
  cases kk with
  | int => obtain ⟨q, hu⟩ := hk; exact leaf_i (e := 9999) hu (by simpa [cmpKey] using hc) hA hB
  | str => exact leaf_s (e := 9999) hk (by simpa [cmpKey] using hc) hA hB
  | agg sh =>
    obtain ⟨⟨fs, hu⟩, hf⟩ := hk
    cases A <;> cases B <;> simp [cmpKey] at hc
    exact equal_agg hu hf hA hB hc

theorem cell_bits {l : LK} {A B : AV} {x y : Value} (hA : RepV G A x) (hB : RepV G B y) (hc : cmpCell l A B = some true) (n : Nat) : Instr.sameBits n y x = true := by
  cases l <;> cases A <;> cases B <;> simp [cmpCell] at hc
  · cases hA; cases hB; simp [Instr.sameBits, hc]
  · obtain ⟨rfl, rfl⟩ := hc; cases hA; cases hB; simp [Instr.sameBits]
  · cases hA with
    | str _ x hx =>
      cases hB with
      | str _ y hy => simp only [Instr.sameBits, str_beq, hx, hy, hc, decide_true]

theorem cells_bits : ∀ {sh : List LK} {cs ds : List AV} {xs ys : List Value}, RepL G cs xs → RepL G ds ys → cmpCells sh cs ds = some true → ∀ n, xs.length = ys.length ∧ ∀ p ∈ ys.zip xs, Instr.sameBits n p.1 p.2 = true
  | [], [], [], xs, ys, h1, h2, _, n => by
    have e1 : xs = [] := by have := h1.1; simpa using this.symm
    have e2 : ys = [] := by have := h2.1; simpa using this.symm
    subst e1; subst e2; simp
  | [], [], _ :: _, _, _, _, _, h, _ => by simp [cmpCells] at h
  | [], _ :: _, _, _, _, _, _, h, _ => by simp [cmpCells] at h
  | _ :: _, [], _, _, _, _, _, h, _ => by simp [cmpCells] at h
  | _ :: _, _ :: _, [], _, _, _, _, h, _ => by simp [cmpCells] at h
  | l :: sh, a :: cs, b :: ds, [], ys, h1, _, _, _ => by have := h1.1; simp at this
  | l :: sh, a :: cs, b :: ds, _ :: _, [], _, h2, _, _ => by have := h2.1; simp at this
  | l :: sh, a :: cs, b :: ds, x :: xs, y :: ys, h1, h2, h, n => by
    simp only [cmpCells] at h
    split at h
    · rename_i r hr
      split at h
      · rename_i q hq
        simp only [Option.some.injEq, Bool.and_eq_true] at h
        obtain ⟨rfl, rfl⟩ := h
        obtain ⟨e1, e2⟩ := cells_bits h1.tail h2.tail hq n
        refine ⟨by simp [e1], fun p hp => ?_⟩
        simp only [List.zip_cons_cons, List.mem_cons] at hp
        rcases hp with rfl | hp
        · exact cell_bits h1.head h2.head hr n
        · exact e2 p hp
      · cases h
    · cases h

theorem key_bits {kk : KK} {A B : AV} {x y : Value} (hA : RepV G A x) (hB : RepV G B y) (hc : cmpKey kk A B = some true) : Instr.sameBits 10000 y x = true := by
  cases kk with
  | int => exact cell_bits hA hB (by simpa [cmpKey] using hc) _
  | str => exact cell_bits hA hB (by simpa [cmpKey] using hc) _
  | agg sh =>
    cases A <;> cases B <;> simp [cmpKey] at hc
    cases hA with
    | agg _ xs hl1 h1 hr1 =>
      cases hB with
      | agg _ ys hl2 h2 hr2 =>
        obtain ⟨e1, e2⟩ := cells_bits (G := G) (xs := xs.toList) (ys := ys.toList) ⟨by simpa using hl1, fun i a v x y => hr1 i a v x (by simpa using y)⟩ ⟨by simpa using hl2, fun i a v x y => hr2 i a v x (by simpa using y)⟩ hc 9999
        show Instr.sameBits (9999 + 1) _ _ = true
        simp only [Instr.sameBits, Bool.and_eq_true, beq_iff_eq, List.all_eq_true]
        exact ⟨by simpa using e1.symm, fun p hp => e2 p hp⟩

theorem check_fields {n : Nat} {b : Bool} {g : TypeId → Option (List LK)} (ih : ∀ t sh, g t = some sh → ∀ x A, ValOf P t A → RepV G A x → A.cells.length = sh.length → (Instr.checkKey b n t x).run P w = .ok () w) :
    ∀ (fs : List Field) (m : Nat) (sh : List LK) (cs : List AV) (xs : Array Value), flatFs P g fs m = some sh → RepL G cs xs.toList → (∀ a ∈ cs, a.one = true) → (cs.drop m).length = sh.length →
      (forIn fs PUnit.unit fun f _ => (do
        if f.name ≠ "_" then do
          Instr.checkKey b n f.type (← part f.type xs f.offset)
          Pure.pure (ForInStep.yield PUnit.unit)
        else Pure.pure (ForInStep.yield PUnit.unit) : Sem (ForInStep PUnit))).run P w = .ok PUnit.unit w
  | [], m, sh, cs, xs, h, hc, h1, hl => by simp
  | f :: fs, m, sh, cs, xs, h, hc, h1, hl => by
    simp only [flatFs] at h
    split at h
    case isFalse => cases h
    rename_i hf
    obtain ⟨hoff, hname⟩ := hf
    split at h
    case h_2 => cases h
    rename_i sh1 k hg hk
    split at h
    case isFalse => cases h
    rename_i hsz
    obtain ⟨hsz, hone⟩ := hsz
    split at h
    case h_2 => cases h
    rename_i sh2 hr
    cases h
    subst hoff
    simp only [List.length_append] at hl
    have key : ∃ A u, (part f.type xs f.offset).run P w = .ok u w ∧ RepV G A u ∧ ValOf P f.type A ∧ A.cells.length = sh1.length := by
      have hle : sh1.length ≤ (cs.drop f.offset).length := by omega
      cases k with
      | none =>
        have hl1 := hone rfl
        rw [hl1] at hle ⊢
        obtain ⟨a, rest, hdr⟩ : ∃ a rest, cs.drop f.offset = a :: rest := by
          cases hdr : cs.drop f.offset with
          | nil => rw [hdr] at hle; simp at hle
          | cons a rest => exact ⟨a, rest, rfl⟩
        obtain ⟨u, hu, hu2⟩ := part_run (w := w) hk hc h1 (off := f.offset) (v := a) (by rw [hdr]; rfl)
        have ha : a.one = true := h1 a (List.mem_of_mem_drop (by rw [hdr]; simp))
        refine ⟨a, u, hu, hu2, ?_, ?_⟩
        · unfold ValOf; rw [hk]; exact ha
        · rw [AV.one_cells ha]; simp
      | some q =>
        have hm : q = sh1.length := by
          have := (run_isAgg_true hk w).2
          rw [hsz] at this; exact (Option.some.inj this).symm
        subst hm
        obtain ⟨u, hu, hu2⟩ := part_run (w := w) hk hc h1 (off := f.offset) (v := .agg ((cs.drop f.offset).take sh1.length)) (by simp only [take]; rw [if_pos hle])
        refine ⟨_, u, hu, hu2, ?_, ?_⟩
        · unfold ValOf; rw [hk]; exact ⟨_, rfl⟩
        · simp [AV.cells]; simp at hle; omega
    obtain ⟨A, u, p1, p2, p3, p4⟩ := key
    have hrest := check_fields ih fs (f.offset + sh1.length) sh2 cs xs hr hc h1 (by simp only [List.length_drop] at hl ⊢; omega)
    simp only [List.forIn_cons, hname, ne_eq, not_false_eq_true, if_true, Sem.run_bind, p1, Result.andThen_ok, ih f.type sh1 hg u A p3 p2 p4, Sem.run_pure]
    exact hrest

theorem flat_check : ∀ (d e : Nat) (b : Bool) (t : TypeId) (sh : List LK), flatN P d t = some sh → ∀ (x : Value) (A : AV), ValOf P t A → RepV G A x → A.cells.length = sh.length → (Instr.checkKey b (e + d) t x).run P w = .ok () w
  | 0, e, b, t, sh, h, x, A, vA, hA, hl => by simp [flatN] at h
  | d + 1, e, b, t, sh, h, x, A, vA, hA, hl => by
    rw [show e + (d + 1) = (e + d) + 1 from rfl, Instr.checkKey]
    simp only [flatN] at h
    split at h
    · rename_i hu; simp only [Sem.run_bind, run_underlying hu, Result.andThen_ok]; rfl
    · rename_i k hu; simp only [Sem.run_bind, run_underlying hu, Result.andThen_ok]; rfl
    · rename_i hu; simp only [Sem.run_bind, run_underlying hu, Result.andThen_ok]; rfl
    · rename_i fs hu
      split at h
      · cases h
      · simp only [Sem.run_bind, run_underlying hu, Result.andThen_ok]
        have hk : ∃ k, kOf P t = some (some k) := by
          unfold ValOf at vA
          cases hk : kOf P t with
          | none => rw [hk] at vA; exact vA.elim
          | some o =>
            cases o with
            | some k => exact ⟨k, rfl⟩
            | none => unfold kOf at hk; rw [hu] at hk; simp at hk
        obtain ⟨k, hk⟩ := hk
        unfold ValOf at vA
        rw [hk] at vA
        obtain ⟨cs, rfl⟩ := vA
        cases hA with
        | agg _ xs hl1 h1 hr1 =>
          simp only []
          rw [← Array.forIn_toList]
          have := check_fields (w := w) (b := b) (fun t sh h x A => flat_check d e b t sh h x A) fs.toList 0 sh cs xs h ⟨by simpa using hl1, fun i a v x y => hr1 i a v x (by simpa using y)⟩ h1 (by simpa [AV.cells] using hl)
          simpa using this
    · cases h

theorem key_check {k : TypeId} {kk : KK} (hk : KeyOk P k kk) (b : Bool) {A : AV} {x : Value} (hA : RepV G A x) (hf : ∀ sh, kk = .agg sh → ∃ cs, A = .agg cs ∧ cs.length = sh.length) : (Instr.checkKey b 10000 k x).run P w = .ok () w := by
  cases kk with
  | int =>
    obtain ⟨q, hu⟩ := hk
    show (Instr.checkKey b (9999 + 1) k x).run P w = _
    rw [Instr.checkKey]; simp only [Sem.run_bind, run_underlying hu, Result.andThen_ok]; rfl
  | str =>
    show (Instr.checkKey b (9999 + 1) k x).run P w = _
    rw [Instr.checkKey]; simp only [Sem.run_bind, run_underlying hk, Result.andThen_ok]; rfl
  | agg sh =>
    obtain ⟨⟨fs, hu⟩, hf2⟩ := hk
    obtain ⟨cs, rfl, hl⟩ := hf sh rfl
    obtain ⟨_, h2, h3⟩ := flatOf_spec hf2
    have : kOf P k = some (some sh.length) := by unfold kOf; rw [hu]; simp [h3]
    exact flat_check 8 9992 b k sh h2 x _ (by unfold ValOf; rw [this]; exact ⟨cs, rfl⟩) hA hl

/-- A key finds what it finds. -/
theorem findKey_run {k : TypeId} {kk : KK} (hk : KeyOk P k kk) {A : AV} {x : Value} (hA : RepV G A x) {es : List (AV × AV)} {xs : List MapEntry} (hl : es.length = xs.length)
    (hr : ∀ (i : Nat) (p : AV × AV) (e : MapEntry), es[i]? = some p → xs[i]? = some e → RepV G p.1 e.key ∧ RepV G p.2 e.val) {r : Option (Nat × AV)} (h : findKey kk A es 0 = some r) :
    match r with
    | none => (Instr.findKey k x xs).run P w = .ok none w
    | some (i, V) => ∃ e : MapEntry, xs[i]? = some e ∧ i < es.length ∧ RepV G V e.val ∧ (Instr.findKey k x xs).run P w = .ok (some (i, e.val)) w ∧ Instr.sameBits 10000 e.key x = true := by
  -- asking, one by one
  have ask : ∀ (es : List (AV × AV)) (xs : List MapEntry) (i0 : Nat) (r : Option (Nat × AV)), es.length = xs.length →
      (∀ (i : Nat) (p : AV × AV) (e : MapEntry), es[i]? = some p → xs[i]? = some e → RepV G p.1 e.key ∧ RepV G p.2 e.val) → findKey kk A es i0 = some r →
      match r with
      | none => (Instr.findAsking k x xs i0).run P w = .ok none w
      | some (i, V) => ∃ (j : Nat) (e : MapEntry), i = i0 + j ∧ xs[j]? = some e ∧ j < es.length ∧ RepV G V e.val ∧ (Instr.findAsking k x xs i0).run P w = .ok (some (i, e.val)) w ∧ Instr.sameBits 10000 e.key x = true := by
    intro es
    induction es with
    | nil =>
      intro xs i0 r hl hr h
      obtain rfl : xs = [] := by simpa using hl.symm
      simp [findKey] at h; subst h
      simp [Instr.findAsking]
    | cons p es ih =>
      intro xs i0 r hl hr h
      obtain ⟨p1, p2⟩ := p
      cases xs with
      | nil => simp at hl
      | cons e xs =>
        obtain ⟨h1, h2⟩ := hr 0 (p1, p2) e rfl rfl
        simp only [findKey] at h
        split at h
        · rename_i hs
          cases h
          refine ⟨0, e, by simp, rfl, by simp, h2, ?_, key_bits hA h1 hs⟩
          simp [Instr.findAsking, key_equal (w := w) hk hA h1 hs]
        · rename_i hs
          have ih := ih xs (i0 + 1) r (by simpa using hl) (fun i p e x y => hr (i + 1) p e (by simpa using x) (by simpa using y)) h
          have hstep : (Instr.findAsking k x (e :: xs) i0).run P w = (Instr.findAsking k x xs (i0 + 1)).run P w := by
            simp [Instr.findAsking, key_equal (w := w) hk hA h1 hs]
          cases r with
          | none => simp only at ih ⊢; rw [hstep]; exact ih
          | some q =>
            obtain ⟨i, V⟩ := q
            obtain ⟨j, e', e1, e2, e3, e4, e5, e6⟩ := ih
            exact ⟨j + 1, e', by omega, by simpa using e2, by simp; omega, e4, by rw [hstep]; exact e5, e6⟩
        · cases h
  -- at once
  have now : ∀ (d : TypeDesc), ((∃ q, kk = .int ∧ d = .int q) ∨ kk = .str ∧ d = .string) → ∀ (es : List (AV × AV)) (xs : List MapEntry) (i0 : Nat) (r : Option (Nat × AV)), es.length = xs.length →
      (∀ (i : Nat) (p : AV × AV) (e : MapEntry), es[i]? = some p → xs[i]? = some e → RepV G p.1 e.key ∧ RepV G p.2 e.val) → findKey kk A es i0 = some r →
      match r with
      | none => Instr.findNow d x xs i0 = some none
      | some (i, V) => ∃ (j : Nat) (e : MapEntry), i = i0 + j ∧ xs[j]? = some e ∧ j < es.length ∧ RepV G V e.val ∧ Instr.findNow d x xs i0 = some (some (i, e.val)) ∧ Instr.sameBits 10000 e.key x = true := by
    intro d hd es
    have same : ∀ {B : AV} {y : Value} {r : Bool}, RepV G B y → cmpKey kk A B = some r → Instr.sameNow d x y = some r := by
      intro B y r hB h
      rcases hd with ⟨q, rfl, rfl⟩ | ⟨rfl, rfl⟩
      · simp only [cmpKey] at h
        cases A <;> cases B <;> simp [cmpCell] at h
        obtain ⟨rfl, rfl⟩ := h
        cases hA; cases hB
        simp only [Instr.sameNow, if_true]; rfl
      · simp only [cmpKey] at h
        cases A <;> cases B <;> simp [cmpCell] at h
        subst h
        cases hA with
        | str _ x hx =>
          cases hB with
          | str _ y hy => simp only [Instr.sameNow, str_beq, hx, hy]
    induction es with
    | nil =>
      intro xs i0 r hl hr h
      obtain rfl : xs = [] := by simpa using hl.symm
      simp [findKey] at h; subst h
      rfl
    | cons p es ih =>
      intro xs i0 r hl hr h
      obtain ⟨p1, p2⟩ := p
      cases xs with
      | nil => simp at hl
      | cons e xs =>
        obtain ⟨h1, h2⟩ := hr 0 (p1, p2) e rfl rfl
        simp only [findKey] at h
        split at h
        · rename_i hs
          cases h
          refine ⟨0, e, by simp, rfl, by simp, h2, ?_, key_bits hA h1 hs⟩
          simp only [Instr.findNow, same h1 hs]
        · rename_i hs
          have ih := ih xs (i0 + 1) r (by simpa using hl) (fun i p e x y => hr (i + 1) p e (by simpa using x) (by simpa using y)) h
          have hstep : Instr.findNow d x (e :: xs) i0 = Instr.findNow d x xs (i0 + 1) := by simp only [Instr.findNow, same h1 hs]
          cases r with
          | none => simp only at ih ⊢; rw [hstep]; exact ih
          | some q =>
            obtain ⟨i, V⟩ := q
            obtain ⟨j, e', e1, e2, e3, e4, e5, e6⟩ := ih
            exact ⟨j + 1, e', by omega, by simpa using e2, by simp; omega, e4, by rw [hstep]; exact e5, e6⟩
        · cases h
  have plain : ∀ d, P.underlying k = some d → ((∃ q, kk = .int ∧ d = .int q) ∨ kk = .str ∧ d = .string) → match r with
    | none => (Instr.findKey k x xs).run P w = .ok none w
    | some (i, V) => ∃ e : MapEntry, xs[i]? = some e ∧ i < es.length ∧ RepV G V e.val ∧ (Instr.findKey k x xs).run P w = .ok (some (i, e.val)) w ∧ Instr.sameBits 10000 e.key x = true := by
    intro d hu hd
    have := now d hd es xs 0 r hl hr h
    cases r with
    | none => simp only at this ⊢; simp [Instr.findKey, run_underlying hu, this]
    | some q =>
      obtain ⟨i, V⟩ := q
      obtain ⟨j, e', e1, e2, e3, e4, e5, e6⟩ := this
      obtain rfl : i = j := by omega
      exact ⟨e', e2, e3, e4, by simp [Instr.findKey, run_underlying hu, e5], e6⟩
  cases kk with
  | int => obtain ⟨q, hu⟩ := hk; exact plain _ hu (.inl ⟨q, rfl, rfl⟩)
  | str => exact plain _ hk (.inr ⟨rfl, rfl⟩)
  | agg sh =>
    obtain ⟨⟨fs, hu⟩, hf⟩ := hk
    have := ask es xs 0 r hl hr h
    have hnow : (∃ q, Instr.findNow (.struct fs) x xs 0 = some q) → xs = [] := by
      rintro ⟨q, hq⟩
      cases xs with
      | nil => rfl
      | cons e xs =>
        simp only [Instr.findNow] at hq
        have : Instr.sameNow (.struct fs) x e.key = none := by cases x <;> rfl
        rw [this] at hq; cases hq
    cases hfn : Instr.findNow (.struct fs) x xs 0 with
    | some q =>
      have hx := hnow ⟨q, hfn⟩
      subst hx
      have : es = [] := by simpa using hl
      subst this
      simp [findKey] at h; subst h
      simp [Instr.findKey, run_underlying hu, Instr.findNow]
    | none =>
      cases r with
      | none => simp only at this ⊢; simp [Instr.findKey, run_underlying hu, hfn, this]
      | some q =>
        obtain ⟨i, V⟩ := q
        obtain ⟨j, e', e1, e2, e3, e4, e5, e6⟩ := this
        obtain rfl : i = j := by omega
        exact ⟨e', e2, e3, e4, by simp [Instr.findKey, run_underlying hu, hfn, e5], e6⟩

end
end Go.Am

namespace Go.Am

theorem add_none (b o n : Nat) : (⟨b, o, none⟩ : Addr).add n = ⟨b, o + n, none⟩ := by unfold Addr.add; split <;> simp_all

theorem RepV.bool_inv {G : Gh} {b : Bool} {x : Value} (h : RepV G (.bool b) x) : x = .bool b := by cases h; rfl
theorem RepV.int_inv {G : Gh} {k : IntKind} {n : Int} {x : Value} (h : RepV G (.int k n) x) : x = .int k n := by cases h; rfl
theorem RepV.nptr_inv {G : Gh} {x : Value} (h : RepV G .nptr x) : x = .pointer none := by cases h; rfl
theorem RepV.nmap_inv {G : Gh} {x : Value} (h : RepV G .nmap x) : x = .map none := by cases h; rfl
theorem RepV.nfn_inv {G : Gh} {x : Value} (h : RepV G .nfn x) : x = .nilFunc := by cases h; rfl
theorem RepV.nsl_inv {G : Gh} {x : Value} (h : RepV G .nsl x) : x = .slice none 0 0 := by cases h; rfl

section
variable {P : Program} {t : TypeId} (w : World)
theorem equal_bool (hu : P.underlying t = some .bool) (p q : Bool) : (Op.equal t (.bool p) (.bool q)).run P w = .ok (p == q) w := by
  show (Op.equalIn (9999 + 1) t _ _).run P w = _
  rw [Op.equalIn]; simp [run_underlying hu]
theorem equal_nil_ptr {e : TypeId} (hu : P.underlying t = some (.pointer e)) (p : Option Addr) : (Op.equal t (.pointer none) (.pointer p)).run P w = .ok p.isNone w := by
  show (Op.equalIn (9999 + 1) t _ _).run P w = _
  rw [Op.equalIn]; simp [run_underlying hu]
theorem equal_ptr_nil {e : TypeId} (hu : P.underlying t = some (.pointer e)) (p : Addr) : (Op.equal t (.pointer (some p)) (.pointer none)).run P w = .ok false w := by
  show (Op.equalIn (9999 + 1) t _ _).run P w = _
  rw [Op.equalIn]; simp [run_underlying hu]
theorem equal_nil_sl {e : TypeId} (hu : P.underlying t = some (.slice e)) (p : Option Addr) (n m k l : Nat) : (Op.equal t (.slice none n m) (.slice p k l)).run P w = .ok p.isNone w := by
  show (Op.equalIn (9999 + 1) t _ _).run P w = _
  rw [Op.equalIn]; simp [run_underlying hu]
theorem equal_sl_nil {e : TypeId} (hu : P.underlying t = some (.slice e)) (p : Addr) (n m k l : Nat) : (Op.equal t (.slice (some p) n m) (.slice none k l)).run P w = .ok false w := by
  show (Op.equalIn (9999 + 1) t _ _).run P w = _
  rw [Op.equalIn]; simp [run_underlying hu]
theorem equal_nil_map {k e : TypeId} (hu : P.underlying t = some (.map k e)) (p : Option Nat) : (Op.equal t (.map none) (.map p)).run P w = .ok p.isNone w := by
  show (Op.equalIn (9999 + 1) t _ _).run P w = _
  rw [Op.equalIn]; simp [run_underlying hu]
theorem equal_map_nil {k e : TypeId} (hu : P.underlying t = some (.map k e)) (p : Nat) : (Op.equal t (.map (some p)) (.map none)).run P w = .ok false w := by
  show (Op.equalIn (9999 + 1) t _ _).run P w = _
  rw [Op.equalIn]; simp [run_underlying hu]
theorem equal_nil_fn {a b : Array TypeId} {c : Bool} (hu : P.underlying t = some (.func a b c)) : (Op.equal t .nilFunc .nilFunc).run P w = .ok true w := by
  show (Op.equalIn (9999 + 1) t _ _).run P w = _
  rw [Op.equalIn]; simp [run_underlying hu]
theorem equal_nil_fn' {a b : Array TypeId} {c : Bool} (hu : P.underlying t = some (.func a b c)) (f : Fn) (us vs : Array Value) : (Op.equal t .nilFunc (.func f us vs)).run P w = .ok false w := by
  show (Op.equalIn (9999 + 1) t _ _).run P w = _
  rw [Op.equalIn]; simp [run_underlying hu]
theorem equal_fn_nil {a b : Array TypeId} {c : Bool} (hu : P.underlying t = some (.func a b c)) (f : Fn) (us vs : Array Value) : (Op.equal t (.func f us vs) .nilFunc).run P w = .ok false w := by
  show (Op.equalIn (9999 + 1) t _ _).run P w = _
  rw [Op.equalIn]; simp [run_underlying hu]
theorem binOp_eql {x y : Value} {r : Bool} (h : (Op.equal t x y).run P w = .ok r w) (hx : binOp .eql t x y = (do Pure.pure (.bool (← Op.equal t x y)))) : (binOp .eql t x y).run P w = .ok (.bool r) w := by
  rw [hx]; simp [h]
theorem binOp_neq {x y : Value} {r : Bool} (h : (Op.equal t x y).run P w = .ok r w) (hx : binOp .neq t x y = (do Pure.pure (.bool (!(← Op.equal t x y))))) : (binOp .neq t x y).run P w = .ok (.bool (!r)) w := by
  rw [hx]; simp [h]
end

section
variable {P : Program} {ng fl : Nat} {G : Gh} {own : Own} {fr : List AV} {a : Act} {w : World} {s s' : St} {o : Oper} {io : IOp} {v : AV}

theorem ok_mov {x : Operand} (hR : Rel P ng s w G own) (hf : RepF G fr a) (ho : o.op = .move x ∨ o.op = .assign x) (hl : (lowX ng x).map IOp.mov = some io) (he : evOp fr s io = some (v, s')) :
    OpOk P ng G a w o v s' := by
  simp only [Option.map_eq_some_iff] at hl
  obtain ⟨y, hy, rfl⟩ := hl
  simp only [evOp, Option.some.injEq, Prod.mk.injEq] at he
  obtain ⟨rfl, rfl⟩ := he
  refine .pure hR (u := a.eval x) ?_ (lowX_rep hf hy hR.glob)
  rcases ho with ho | ho <;> simp [execOp, ho]

theorem ok_pick {c x y : Operand} (hR : Rel P ng s w G own) (hf : RepF G fr a) (ho : o.op = .pick c x y) (hl : lowOp P ng fl (.pick c x y) = some io) (he : evOp fr s io = some (v, s')) :
    OpOk P ng G a w o v s' := by
  simp only [lowOp] at hl
  split at hl
  · rename_i C X Y h1 h2 h3
    cases hl
    have r1 := lowX_rep hf h1 hR.glob
    simp only [evOp] at he
    split at he
    · rename_i e
      cases he
      rw [e] at r1
      have ec := r1.bool_inv
      refine .pure hR (u := a.eval x) ?_ (lowX_rep hf h2 hR.glob)
      simp [execOp, ho, ec, asBool]
    · rename_i e
      cases he
      rw [e] at r1
      have ec := r1.bool_inv
      refine .pure hR (u := a.eval y) ?_ (lowX_rep hf h3 hR.glob)
      simp [execOp, ho, ec, asBool]
    · cases he
  · cases hl

theorem ok_nilchk {x : Operand} (hR : Rel P ng s w G own) (hf : RepF G fr a) (ho : o.op = .nilCheck x) (hl : (lowX ng x).map IOp.nilchk = some io) (he : evOp fr s io = some (v, s')) :
    OpOk P ng G a w o v s' := by
  simp only [Option.map_eq_some_iff] at hl
  obtain ⟨y, hy, rfl⟩ := hl
  have r := lowX_rep hf hy hR.glob
  simp only [evOp] at he
  generalize hv : a.eval x = xv at r
  split at he <;> first | (cases he; done) | skip
  · rename_i e; cases he; rw [e] at r; refine .pure hR (u := xv) ?_ r; cases r; simp [execOp, ho, hv]
  · rename_i e; cases he; rw [e] at r; refine .pure hR (u := xv) ?_ r; cases r; simp [execOp, ho, hv]
  · rename_i e; cases he; rw [e] at r; refine .pure hR (u := xv) ?_ r; cases r; simp [execOp, ho, hv]

theorem ok_bin {op : BinOp} {t ty : TypeId} {x y : Operand} (hR : Rel P ng s w G own) (hf : RepF G fr a) (ho : o.op = .binOp op t x y ty) (hl : lowOp P ng fl (.binOp op t x y ty) = some io)
    (he : evOp fr s io = some (v, s')) : OpOk P ng G a w o v s' := by
  simp only [lowOp] at hl
  split at hl
  case h_2 => cases hl
  rename_i X Y h1 h2
  have r1 := lowX_rep hf h1 hR.glob
  have r2 := lowX_rep hf h2 hR.glob
  have key : ∀ u, (binOp op t (a.eval x) (a.eval y)).run P w = .ok u w → (eqGuard op t x y (a.eval x) (a.eval y)).run P w = .ok () w → (execOp a.eval o).run P w = .ok (.value u) w := by
    intro u hu hgd
    simp [execOp, ho, hgd, hu]
  simp only [lowBin] at hl
  split at hl <;> rename_i hu <;> first | (cases hl; done) | skip
  -- numbers, strings
  iterate 2
    · cases hl
      simp only [evOp] at he
      split at he
      · rename_i vv hb
        cases he
        obtain ⟨u, hu1, hu2⟩ := run_bin (G := G) r1 r2 hb w t
        refine .pure hR (key u hu1 (eqGuard_run op t x y r1 r2 ?_ w)) hu2
        refine .inr ⟨fun cs e => ?_, fun e => ?_⟩ <;> (rw [e] at hb; simp [bin] at hb)
      · cases he
  -- bools
  · have : ∃ neg, io = .eqb neg X Y ∧ (op = .eql ∧ neg = false ∨ op = .neq ∧ neg = true) := by
      cases op <;> simp at hl <;> subst hl <;> exact ⟨_, rfl, by simp⟩
    obtain ⟨neg, rfl, hop⟩ := this
    simp only [evOp] at he
    split at he
    · rename_i p q e1 e2
      cases he
      rw [e1] at r1; rw [e2] at r2
      have g := eqGuard_run (P := P) op t x y r1 r2 (.inr ⟨(fun cs e => by cases e), (fun e => by cases e)⟩) w
      have x1 := r1.bool_inv; have x2 := r2.bool_inv
      have q1 := equal_bool (P := P) w hu p q
      rcases hop with ⟨rfl, rfl⟩ | ⟨rfl, rfl⟩
      · exact .pure hR (key (.bool (p == q)) (by rw [x1, x2]; exact binOp_eql w q1 rfl) g) (.bool _)
      · exact .pure hR (key (.bool (!(p == q))) (by rw [x1, x2]; exact binOp_neq w q1 rfl) g) (.bool _)
    · cases he
  -- pointers
  · have : ∃ neg, io = .eqp neg X Y ∧ (op = .eql ∧ neg = false ∨ op = .neq ∧ neg = true) := by
      cases op <;> simp at hl <;> subst hl <;> exact ⟨_, rfl, by simp⟩
    obtain ⟨neg, rfl, hop⟩ := this
    have fin : ∀ r : Bool, (Op.equal t (a.eval x) (a.eval y)).run P w = .ok r w → (binOp .eql t (a.eval x) (a.eval y) = (do Pure.pure (.bool (← Op.equal t (a.eval x) (a.eval y))))) →
        (binOp .neq t (a.eval x) (a.eval y) = (do Pure.pure (.bool (!(← Op.equal t (a.eval x) (a.eval y)))))) → (eqGuard op t x y (a.eval x) (a.eval y)).run P w = .ok () w → OpOk P ng G a w o (.bool (if neg then !r else r)) s := by
      intro r q1 q2 q3 g
      rcases hop with ⟨rfl, rfl⟩ | ⟨rfl, rfl⟩
      · exact .pure hR (key (.bool r) (binOp_eql w q1 q2) g) (.bool _)
      · exact .pure hR (key (.bool (!r)) (binOp_neq w q1 q3) g) (.bool _)
    simp only [evOp] at he
    split at he <;> rename_i e1 e2 <;> first | (cases he; done) | skip
    all_goals
      cases he
      rw [e1] at r1; rw [e2] at r2
      have g := eqGuard_run (P := P) op t x y r1 r2 (.inr ⟨(fun cs e => by cases e), (fun e => by cases e)⟩) w
    · have x1 := r1.nptr_inv; have x2 := r2.nptr_inv
      rw [x1, x2] at fin g
      simpa using fin true (equal_nil_ptr w hu none) rfl rfl g
    · have x1 := r1.nptr_inv
      generalize a.eval y = yv at *
      cases r2
      rw [x1] at fin g
      simpa using fin false (equal_nil_ptr w hu (some _)) rfl rfl g
    · have x1 := r1.nptr_inv
      generalize a.eval y = yv at *
      cases r2
      rw [x1] at fin g
      simpa using fin false (equal_nil_ptr w hu (some _)) rfl rfl g
    · have x2 := r2.nptr_inv
      generalize a.eval x = xv at *
      cases r1
      rw [x2] at fin g
      simpa using fin false (equal_ptr_nil w hu _) rfl rfl g
    · have x2 := r2.nptr_inv
      generalize a.eval x = xv at *
      cases r1
      rw [x2] at fin g
      simpa using fin false (equal_ptr_nil w hu _) rfl rfl g
  -- slices
  · have : ∃ neg, io = .eqs neg X Y ∧ (op = .eql ∧ neg = false ∨ op = .neq ∧ neg = true) := by
      cases op <;> simp at hl <;> subst hl <;> exact ⟨_, rfl, by simp⟩
    obtain ⟨neg, rfl, hop⟩ := this
    have fin : ∀ r : Bool, (Op.equal t (a.eval x) (a.eval y)).run P w = .ok r w → (binOp .eql t (a.eval x) (a.eval y) = (do Pure.pure (.bool (← Op.equal t (a.eval x) (a.eval y))))) →
        (binOp .neq t (a.eval x) (a.eval y) = (do Pure.pure (.bool (!(← Op.equal t (a.eval x) (a.eval y)))))) → (eqGuard op t x y (a.eval x) (a.eval y)).run P w = .ok () w → OpOk P ng G a w o (.bool (if neg then !r else r)) s := by
      intro r q1 q2 q3 g
      rcases hop with ⟨rfl, rfl⟩ | ⟨rfl, rfl⟩
      · exact .pure hR (key (.bool r) (binOp_eql w q1 q2) g) (.bool _)
      · exact .pure hR (key (.bool (!r)) (binOp_neq w q1 q3) g) (.bool _)
    simp only [evOp] at he
    split at he <;> rename_i e1 e2 <;> first | (cases he; done) | skip
    all_goals
      cases he
      rw [e1] at r1; rw [e2] at r2
      have g := eqGuard_run (P := P) op t x y r1 r2 (.inr ⟨(fun cs e => by cases e), (fun e => by cases e)⟩) w
    · have x1 := r1.nsl_inv; have x2 := r2.nsl_inv
      rw [x1, x2] at fin g
      simpa using fin true (equal_nil_sl w hu none _ _ _ _) rfl rfl g
    · have x1 := r1.nsl_inv
      generalize a.eval y = yv at *
      cases r2
      rw [x1] at fin g
      simpa using fin false (equal_nil_sl w hu (some _) _ _ _ _) rfl rfl g
    · have x1 := r1.nsl_inv
      generalize a.eval y = yv at *
      cases r2
      rw [x1] at fin g
      simpa using fin false (equal_nil_sl w hu (some _) _ _ _ _) rfl rfl g
    · have x2 := r2.nsl_inv
      generalize a.eval x = xv at *
      cases r1
      rw [x2] at fin g
      simpa using fin false (equal_sl_nil w hu _ _ _ _ _) rfl rfl g
    · have x2 := r2.nsl_inv
      generalize a.eval x = xv at *
      cases r1
      rw [x2] at fin g
      simpa using fin false (equal_sl_nil w hu _ _ _ _ _) rfl rfl g
  -- maps
  · have : ∃ neg, io = .eqm neg X Y ∧ (op = .eql ∧ neg = false ∨ op = .neq ∧ neg = true) := by
      cases op <;> simp at hl <;> subst hl <;> exact ⟨_, rfl, by simp⟩
    obtain ⟨neg, rfl, hop⟩ := this
    have fin : ∀ r : Bool, (Op.equal t (a.eval x) (a.eval y)).run P w = .ok r w → (binOp .eql t (a.eval x) (a.eval y) = (do Pure.pure (.bool (← Op.equal t (a.eval x) (a.eval y))))) →
        (binOp .neq t (a.eval x) (a.eval y) = (do Pure.pure (.bool (!(← Op.equal t (a.eval x) (a.eval y)))))) → (eqGuard op t x y (a.eval x) (a.eval y)).run P w = .ok () w → OpOk P ng G a w o (.bool (if neg then !r else r)) s := by
      intro r q1 q2 q3 g
      rcases hop with ⟨rfl, rfl⟩ | ⟨rfl, rfl⟩
      · exact .pure hR (key (.bool r) (binOp_eql w q1 q2) g) (.bool _)
      · exact .pure hR (key (.bool (!r)) (binOp_neq w q1 q3) g) (.bool _)
    simp only [evOp] at he
    split at he <;> rename_i e1 e2 <;> first | (cases he; done) | skip
    all_goals
      cases he
      rw [e1] at r1; rw [e2] at r2
      have g := eqGuard_run (P := P) op t x y r1 r2 (.inr ⟨(fun cs e => by cases e), (fun e => by cases e)⟩) w
    · have x1 := r1.nmap_inv; have x2 := r2.nmap_inv
      rw [x1, x2] at fin g
      simpa using fin true (equal_nil_map w hu none) rfl rfl g
    · have x1 := r1.nmap_inv
      generalize a.eval y = yv at *
      cases r2
      rw [x1] at fin g
      simpa using fin false (equal_nil_map w hu (some _)) rfl rfl g
    · have x2 := r2.nmap_inv
      generalize a.eval x = xv at *
      cases r1
      rw [x2] at fin g
      simpa using fin false (equal_map_nil w hu _) rfl rfl g
  -- functions
  · have : ∃ neg, io = .eqf neg X Y ∧ (op = .eql ∧ neg = false ∨ op = .neq ∧ neg = true) := by
      cases op <;> simp at hl <;> subst hl <;> exact ⟨_, rfl, by simp⟩
    obtain ⟨neg, rfl, hop⟩ := this
    have fin : ∀ r : Bool, (Op.equal t (a.eval x) (a.eval y)).run P w = .ok r w → (binOp .eql t (a.eval x) (a.eval y) = (do Pure.pure (.bool (← Op.equal t (a.eval x) (a.eval y))))) →
        (binOp .neq t (a.eval x) (a.eval y) = (do Pure.pure (.bool (!(← Op.equal t (a.eval x) (a.eval y)))))) → (eqGuard op t x y (a.eval x) (a.eval y)).run P w = .ok () w → OpOk P ng G a w o (.bool (if neg then !r else r)) s := by
      intro r q1 q2 q3 g
      rcases hop with ⟨rfl, rfl⟩ | ⟨rfl, rfl⟩
      · exact .pure hR (key (.bool r) (binOp_eql w q1 q2) g) (.bool _)
      · exact .pure hR (key (.bool (!r)) (binOp_neq w q1 q3) g) (.bool _)
    simp only [evOp] at he
    split at he <;> rename_i e1 e2 <;> first | (cases he; done) | skip
    all_goals
      cases he
      rw [e1] at r1; rw [e2] at r2
      have g := eqGuard_run (P := P) op t x y r1 r2 (.inr ⟨(fun cs e => by cases e), (fun e => by cases e)⟩) w
    · have x1 := r1.nfn_inv; have x2 := r2.nfn_inv
      rw [x1, x2] at fin g
      simpa using fin true (equal_nil_fn w hu) rfl rfl g
    · have x1 := r1.nfn_inv
      generalize a.eval y = yv at *
      cases r2
      rw [x1] at fin g
      simpa using fin false (equal_nil_fn' w hu _ _ _) rfl rfl g
    · have x2 := r2.nfn_inv
      generalize a.eval x = xv at *
      cases r1
      rw [x2] at fin g
      simpa using fin false (equal_fn_nil w hu _ _ _) rfl rfl g
  -- structs
  · split at hl
    case h_2 => cases hl
    rename_i sh hsh
    have : ∃ neg, io = .eqa neg sh X Y ∧ (op = .eql ∧ neg = false ∨ op = .neq ∧ neg = true) := by
      cases op <;> simp at hl <;> subst hl <;> exact ⟨_, rfl, by simp⟩
    obtain ⟨neg, rfl, hop⟩ := this
    have fin : ∀ r : Bool, (Op.equal t (a.eval x) (a.eval y)).run P w = .ok r w → (binOp .eql t (a.eval x) (a.eval y) = (do Pure.pure (.bool (← Op.equal t (a.eval x) (a.eval y))))) →
        (binOp .neq t (a.eval x) (a.eval y) = (do Pure.pure (.bool (!(← Op.equal t (a.eval x) (a.eval y)))))) → (eqGuard op t x y (a.eval x) (a.eval y)).run P w = .ok () w → OpOk P ng G a w o (.bool (if neg then !r else r)) s := by
      intro r q1 q2 q3 g
      rcases hop with ⟨rfl, rfl⟩ | ⟨rfl, rfl⟩
      · exact .pure hR (key (.bool r) (binOp_eql w q1 q2) g) (.bool _)
      · exact .pure hR (key (.bool (!r)) (binOp_neq w q1 q3) g) (.bool _)
    simp only [evOp] at he
    split at he
    · rename_i cs ds e1 e2
      split at he
      · rename_i r hr
        cases he
        rw [e1] at r1; rw [e2] at r2
        have heq := equal_agg (w := w) hu hsh r1 r2 hr
        have hg := (flatOf_spec hsh).1
        generalize a.eval x = xv at *
        generalize a.eval y = yv at *
        cases r1; cases r2
        exact fin r heq rfl rfl (run_eqGuard_agg w op t x y _ _ hg)
      · cases he
    · cases he

theorem ok_un {op : UnOp} {t : TypeId} {x : Operand} (hR : Rel P ng s w G own) (hf : RepF G fr a) (ho : o.op = .unOp op t x) (hl : (lowX ng x).map (IOp.un op) = some io)
    (he : evOp fr s io = some (v, s')) : OpOk P ng G a w o v s' := by
  simp only [Option.map_eq_some_iff] at hl
  obtain ⟨y, hy, rfl⟩ := hl
  have r := lowX_rep hf hy hR.glob
  simp only [evOp] at he
  generalize hv : a.eval x = xv at r
  split at he <;> rename_i e <;> first | (cases he; done) | skip
  · cases he; rw [e] at r; cases r
    exact .pure hR (by simp [execOp, ho, hv, Op.unary, Op.intArith]; rfl) (by rw [wrapF_eq]; simpa using RepV.int _ _)
  · cases he; rw [e] at r; cases r
    refine .pure hR (u := .int _ _) (by simp only [execOp, ho, hv, Op.unary, Sem.run_bind, run_intBits_xor, Result.andThen_ok]; rfl) ?_
    rw [← allOnes_eq]; exact .int _ _
  · cases he; rw [e] at r; cases r
    exact .pure hR (by simp [execOp, ho, hv, Op.unary]) (.bool _)

end
end Go.Am

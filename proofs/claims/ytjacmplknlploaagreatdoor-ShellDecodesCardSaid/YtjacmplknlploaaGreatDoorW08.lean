/- Regions that draw: whatever the order. Regions that draw. Code and calls. Calls, and the rounds of loops over functions. -/
import Derived.Test.YtjacmplknlploaaGreatDoorW07
set_option linter.all false
namespace Go.Am

theorem lowOp_alloc {P : Program} {ng fl : Nat} {op : Op} {ty : Nat} {cs : List AV} (h : lowOp P ng fl op = some (.alloc ty cs)) : ∃ z, op = .alloc ty ∧ zOf P ty = some z ∧ cs = z.cells := by
  unfold lowOp at h
  split at h
  case h_4 e =>
    split at h
    · rename_i z hz; cases h; exact ⟨z, rfl, hz, rfl⟩
    · cases h
  all_goals (try unfold lowBin at h); (try unfold lowB at h); repeat' (first | (cases h; done) | (simp at h; done) | split at h)

theorem filter_take {p : Nat → Bool} {l : List Nat} {k : Nat} (h : ∀ m i, l[m]? = some i → p i = true → m < k) : (l.filter p).length ≤ k := by
  have : l.filter p = (l.take k).filter p := by
    conv => lhs; rw [← List.take_append_drop k l]
    rw [List.filter_append]
    have : (l.drop k).filter p = [] := by
      rw [List.filter_eq_nil_iff]
      intro i hi hp
      obtain ⟨m, hm⟩ := List.mem_iff_getElem?.1 hi
      rw [List.getElem?_drop] at hm
      have := h _ _ hm hp
      omega
    rw [this, List.append_nil]
  rw [this]
  exact Nat.le_trans (List.length_filter_le _ _) (by simp; omega)

theorem take_filter {p : Nat → Bool} {l : List Nat} {k : Nat} (hk : k ≤ l.length) (h : ∀ m i, l[m]? = some i → m < k → p i = true) : k ≤ (l.filter p).length := by
  have h1 : (l.take k).filter p = l.take k := by
    rw [List.filter_eq_self]
    intro i hi
    obtain ⟨m, hm⟩ := List.mem_iff_getElem?.1 hi
    rw [List.getElem?_take] at hm
    split at hm
    · rename_i hlt; exact h m i hm hlt
    · cases hm
  have : k ≤ ((l.take k ++ l.drop k).filter p).length := by rw [List.filter_append, h1]; simp; omega
  rwa [List.take_append_drop] at this

theorem louds_lt {ss : List IStmt} {p q i j : Nat} (hp : (louds ss)[p]? = some i) (hq : (louds ss)[q]? = some j) (h : p < q) : i < j := by
  have hs : (louds ss).Pairwise (· < ·) := List.Pairwise.sublist List.filter_sublist List.pairwise_lt_range
  obtain ⟨hp', rfl⟩ := List.getElem?_eq_some_iff.1 hp
  obtain ⟨hq', rfl⟩ := List.getElem?_eq_some_iff.1 hq
  exact List.pairwise_iff_getElem.1 hs p q hp' hq' h
theorem louds_inj {ss : List IStmt} {p q i : Nat} (hp : (louds ss)[p]? = some i) (hq : (louds ss)[q]? = some i) : p = q := by
  rcases Nat.lt_trichotomy p q with h | h | h
  · have := louds_lt hp hq h; omega
  · exact h
  · have := louds_lt hq hp h; omega
theorem mem_louds {ss : List IStmt} {i : Nat} : i ∈ louds ss ↔ i < ss.length ∧ (stAt ss i).loud = true := by simp [louds]

theorem fr_ext {fr fr' : List AV} (hl : fr.length = fr'.length) (h : ∀ t, fr.getD t .undef = fr'.getD t .undef) : fr = fr' := by
  apply List.ext_getElem hl
  intro t h1 h2
  have := h t
  simpa [List.getD_eq_getElem?_getD, h1, h2] using this

/-- What is known of a region that draws. -/
structure Known (E : Env) (rec : Rec) (ops : Array Oper) (ss : List IStmt) (fr0 frF : List AV) (val : Nat → AV) (S : Nat → St) (sF : St) : Prop where
  last : S (louds ss).length = sF
  frF : Fr ss fr0 val (fun _ => true) frF
  uniq : ∀ i, i < ss.length → ∀ t, (stAt ss i).dst = some t → writer ss t = some i
  dep : ∀ i, i < ss.length → ∀ t ∈ (stAt ss i).looks, ∀ j, writer ss t = some j → isBefore (afters ops) j i = true ∨ isBefore (afters ops) i j = true ∨ i = j
  tot : ∀ i ∈ louds ss, ∀ j ∈ louds ss, i < j → isBefore (afters ops) i j = true
  fact : ∀ i k, i < ss.length → k ≤ (louds ss).length → lowest (afters ops) (louds ss) i ≤ k → k ≤ highest (afters ops) (louds ss) i → (stAt ss i).pure = true ∨ (stAt ss i).loud = true ∨ Fact E rec (afters ops) ss fr0 val S i k
  factL : ∀ i k, (louds ss)[k]? = some i → Fact E rec (afters ops) ss fr0 val S i k
  factP : ∀ i, i < ss.length → ∃ k, Fact E rec (afters ops) ss fr0 val S i k
  fresh : ∀ i, i < ss.length → (stAt ss i).fresh = true → ∃ r, val i = .ptr r 0
  inj : ∀ i j, i < ss.length → j < ss.length → (stAt ss i).fresh = true → (stAt ss j).fresh = true → val i = val j → i = j

section
variable {P : Program} {ng : Nat} {E : Env} {rec : Rec} {G0 : Gh} {fr0 frF : List AV} {sF : St} {ss : List IStmt} {val : Nat → AV} {S : Nat → St} {ops : Array Oper} {Q : Exit → Act → World → Prop} {md : Region.Mode}

structure Inv (P : Program) (ng : Nat) (G0 : Gh) (ops : Array Oper) (ss : List IStmt) (fr0 : List AV) (val : Nat → AV) (S : Nat → St) (D : Nat → Bool) (k : Nat) (a : Act) (w : World) (G : Gh) (own : Own) : Prop where
  closed : ∀ i j, i < ss.length → D i = true → isBefore (afters ops) j i = true → D j = true
  kle : k ≤ (louds ss).length
  loud : ∀ m i, (louds ss)[m]? = some i → (D i = true ↔ m < k)
  fr : ∃ fr, Fr ss fr0 val D fr ∧ RepF G fr a
  rel : Rel P ng (S k) w G own
  le : G0.le0 G
  rsv : ∀ i, i < ss.length → (stAt ss i).fresh = true → ∀ r, val i = .ptr r 0 → G0.unb r = false
  unb : ∀ r, G.unb r = true ↔ G0.unb r = true ∨ ∃ i, i < ss.length ∧ (stAt ss i).fresh = true ∧ D i = false ∧ val i = .ptr r 0

theorem Inv.done {D : Nat → Bool} {k : Nat} {a : Act} {w : World} {G : Gh} {own : Own} (h : Inv P ng G0 ops ss fr0 val S D k a w G own) (hK : Known E rec ops ss fr0 frF val S sF) (hD : ∀ i, i < ss.length → D i = true) : After P ng G0 frF sF a w := by
  have hk : k = (louds ss).length := by
    rcases Nat.lt_or_ge k (louds ss).length with hlt | hge
    · have he : (louds ss)[k]? = some (louds ss)[k] := by simp [hlt]
      have := (h.loud k _ he).1 (hD _ (mem_louds.1 (List.getElem_mem hlt)).1)
      omega
    · have := h.kle; omega
  subst hk
  obtain ⟨fr, f1, f2⟩ := h.fr
  have hfr : fr = frF := by
    refine fr_ext (by rw [f1.1, hK.frF.1]) fun t => ?_
    rw [f1.2 t, hK.frF.2 t]
    cases hw : writer ss t with
    | none => rfl
    | some j => simp [hD j (writer_some hw).2]
  subst hfr
  refine ⟨G, own, f2, by rw [← hK.last]; exact h.rel, h.le.strong ?_⟩
  funext r
  have := h.unb r
  rw [Bool.eq_iff_iff, this]
  constructor
  · rintro (h | ⟨i, hi, _, hf, _⟩)
    · exact h
    · rw [hD i hi] at hf; cases hf
  · exact .inl

/-- One more operation. -/
theorem Inv.step {D D' : Nat → Bool} {k k' i : Nat} {a : Act} {w w' : World} {G H : Gh} {own own' : Own} {u : Value} {v : AV} (h : Inv P ng G0 ops ss fr0 val S D k a w G own) (hK : Known E rec ops ss fr0 frF val S sF) (hi : i < ss.length)
    (hd : ∀ j, D' j = (D j || j == i)) (hbe : ∀ j, isBefore (afters ops) j i = true → D j = true) (hnd : D i = false)
    (hv : ∀ d, (stAt ss i).dst = some d → d < fr0.length → v = val i) (hr : RepV H v u) (hrel : Rel P ng (S k') w' H own') (hle : G.le0 H)
    (hk : (stAt ss i).loud = true ∧ k' = k + 1 ∧ (louds ss)[k]? = some i ∨ (stAt ss i).loud = false ∧ k' = k) (hunb : ∀ r, H.unb r = true ↔ G.unb r = true ∧ ¬ ((stAt ss i).fresh = true ∧ val i = .ptr r 0)) :
    Inv P ng G0 ops ss fr0 val S D' k' (a.put (stAt ss i).dst u) w' H own' := by
  obtain ⟨fr, f1, f2⟩ := h.fr
  refine ⟨fun p q hp hD hb => ?_, ?_, fun m j hj => ?_, ⟨_, f1.put (hK.uniq i hi) hv hd, put_rep f2 hle hr _⟩, hrel, h.le.trans hle, h.rsv, fun r => ?_⟩
  · rw [hd] at hD ⊢
    rw [Bool.or_eq_true] at hD
    rcases hD with hD | hD
    · rw [h.closed p q hp hD hb]; rfl
    · have : p = i := by simpa using hD
      subst this
      rw [hbe q hb]; rfl
  · rcases hk with ⟨_, rfl, he⟩ | ⟨_, rfl⟩
    · exact (List.getElem?_eq_some_iff.1 he).1
    · exact h.kle
  · rw [hd]
    rcases hk with ⟨_, rfl, he⟩ | ⟨hl, rfl⟩
    · by_cases hji : j = i
      · subst hji
        have := louds_inj hj he
        simp; omega
      · have : m ≠ k := by rintro rfl; rw [he] at hj; cases hj; exact hji rfl
        have h1 := h.loud m j hj
        simp only [Bool.or_eq_true, h1, beq_iff_eq, hji, or_false]
        omega
    · have hji : j ≠ i := by
        rintro rfl
        have := (mem_louds.1 (List.mem_of_getElem? hj)).2
        rw [hl] at this; cases this
      have h1 := h.loud m j hj
      simp only [Bool.or_eq_true, h1, beq_iff_eq, hji, or_false]
  · rw [hunb r, h.unb r]
    constructor
    · rintro ⟨h1 | ⟨j, hj, hf, hDj, hvj⟩, h2⟩
      · exact .inl h1
      · refine .inr ⟨j, hj, hf, ?_, hvj⟩
        rw [hd, hDj]
        have : j ≠ i := by rintro rfl; exact h2 ⟨hf, hvj⟩
        simp [this]
    · rintro (h1 | ⟨j, hj, hf, hDj, hvj⟩)
      · refine ⟨.inl h1, ?_⟩
        rintro ⟨hf, hvi⟩
        -- a reserved one is not one from before
        rw [h.rsv i hi hf r hvi] at h1; cases h1
      · rw [hd] at hDj
        have hDj' : D j = false ∧ j ≠ i := by
          cases hx : D j <;> simp [hx] at hDj ⊢; exact hDj
        refine ⟨.inr ⟨j, hj, hf, hDj'.1, hvj⟩, ?_⟩
        rintro ⟨hfi, hvi⟩
        exact hDj'.2 (hK.inj j i hj hi hf hfi (by rw [hvj, hvi]))


theorem any_sound {ro : Option Nat} {fl : Nat → Nat} (hE : CallsR P ng E rec) (hll : lowL P ng fl ops ops.toList = some ss) (hK : Known E rec ops ss fr0 frF val S sF) (hmd : ∀ e, Region.binds .any e = true → Region.binds md e = true)
    (hord : ∃ l, orderOk md ops.toList l [] = true) (hQ : ∀ a' w', After P ng G0 frF sF a' w' → Q .normal a' w') :
    ∀ (fuel : Nat) (listed : Array Bool) (k : Nat) (a : Act) (w : World) (G : Gh) (own : Own), listed.size = ops.size → (∃ l : List Nat, l.length ≤ fuel ∧ ∀ i, i < ops.size → listed.getD i false = false → i ∈ l) →
    Inv P ng G0 ops ss fr0 val S (fun i => listed.getD i false) k a w G own → wpAnyIn (Fw ro) 0 P md ops Q fuel listed a w := by
  have hn : ss.length = ops.size := by have := (lowL_get hll).1; simpa using this
  have hall : ∀ (listed : Array Bool) (k : Nat) (a : Act) (w : World) (G : Gh) (own : Own), listed.size = ops.size → Inv P ng G0 ops ss fr0 val S (fun i => listed.getD i false) k a w G own → Region.ready md ops listed = [] → Q .normal a w := by
    intro listed k a w G own hsz hI hr
    refine hQ _ _ (hI.done hK fun i hi => ?_)
    cases hx : listed.getD i false with
    | true => rfl
    | false =>
      obtain ⟨l, hl⟩ := hord
      obtain ⟨j, o, h1, h2, h3⟩ := order_ready (D := fun i => listed.getD i false) l [] hl (by simp) ⟨i, by omega, hx⟩
      have hj : j < ops.size := (Array.getElem?_eq_some_iff.1 h1).1
      have hm : j ∈ Region.ready md ops listed := mem_ready.2 ⟨by
        have hj' : j < listed.size := by omega
        simpa [Array.getD, hj'] using h2, o, h1, h3⟩
      rw [hr] at hm; simp at hm
  intro fuel
  induction fuel with
  | zero =>
    intro listed k a w G own hsz ⟨l, hl, hm⟩ hI
    have hr : Region.ready md ops listed = [] := by
      apply List.eq_nil_iff_forall_not_mem.2
      intro i hi
      obtain ⟨h1, o, h2, _⟩ := mem_ready.1 hi
      have hi' : i < ops.size := (Array.getElem?_eq_some_iff.1 h2).1
      have hi2 : i < listed.size := by omega
      have := hm i hi' (by simpa [Array.getD, hi2] using h1)
      cases l with
      | nil => simp at this
      | cons => simp at hl
    exact ⟨hr, hall listed k a w G own hsz hI hr⟩
  | succ fuel ih =>
    intro listed k a w G own hsz ⟨l, hl, hm⟩ hI
    refine ⟨hall listed k a w G own hsz hI, fun i hi => ?_⟩
    obtain ⟨h1, o, ho, hedges⟩ := mem_ready.1 hi
    have hi' : i < ops.size := (Array.getElem?_eq_some_iff.1 ho).1
    have hi2 : i < listed.size := by omega
    have hin : i < ss.length := by omega
    have hnd : listed.getD i false = false := by simpa [Array.getD, hi2] using h1
    -- what is before it has been evaluated
    have hbe : ∀ j, isBefore (afters ops) j i = true → listed.getD j false = true := by
      intro j hj
      obtain ⟨e, e1, e2, e3⟩ := before_edge ho hj
      have he := hedges e e1 (hmd e e2)
      rcases e3 with rfl | e3
      · exact he
      · refine hI.closed e.on j ?_ he e3
        rcases Nat.lt_or_ge e.on ss.length with hlt | hge
        · exact hlt
        · have : ¬ e.on < listed.size := by omega
          simp [Array.getD, this] at he
    have hview : ViewD (afters ops) ss (fun i => listed.getD i false) i := by
      intro t ht j hw
      rcases hK.dep i hin t ht j hw with hb | hb | rfl
      · rw [hb]; exact hbe j hb
      · cases hx : isBefore (afters ops) j i with
        | true => exact hbe j hx
        | false =>
          cases hy : listed.getD j false with
          | false => exact hy
          | true => rw [hI.closed j i (writer_some hw).2 hy hb] at hnd; cases hnd
      · cases hx : isBefore (afters ops) i i with
        | true => exact hbe i hx
        | false => exact hnd
    obtain ⟨st, hst, hls⟩ := (lowL_get hll).2 i o (by simpa using ho)
    have hstA : stAt ss i = st := by simp [stAt, List.getD_eq_getElem?_getD, hst]
    have hdst : (stAt ss i).dst = o.dst := by rw [hstA]; exact lowS_dst hls
    let listed' := listed.setIfInBounds i true
    have hd : ∀ j, listed'.getD j false = (listed.getD j false || j == i) := by
      intro j
      by_cases hji : j = i
      · subst hji; simp [listed', Array.getD, hi2]
      · have : listed'.getD j false = listed.getD j false := getD_set_ne false (fun e => hji e.symm)
        rw [this]; simp [hji]
    have hm' : ∃ l' : List Nat, l'.length ≤ fuel ∧ ∀ j, j < ops.size → listed'.getD j false = false → j ∈ l' := by
      refine ⟨l.erase i, ?_, fun j hj hf => ?_⟩
      · rw [List.length_erase_of_mem (hm i hi' hnd)]; omega
      · rw [hd, Bool.or_eq_false_iff] at hf
        have hne : j ≠ i := by simpa using hf.2
        exact (List.mem_erase_of_ne hne).2 (hm j hj hf.1)
    have hsz' : listed'.size = ops.size := by simp [listed', hsz]
    have hlow : lowest (afters ops) (louds ss) i ≤ k := by
      refine filter_take fun m e he hb => ?_
      exact (hI.loud m e he).1 (hbe e hb)
    have hhigh : k ≤ highest (afters ops) (louds ss) i := by
      refine take_filter hI.kle fun m e he hlt => ?_
      have hDe := (hI.loud m e he).2 hlt
      cases hx : isBefore (afters ops) i e with
      | false => rfl
      | true =>
        have := hI.closed e i (mem_louds.1 (List.mem_of_getElem? he)).1 hDe hx
        rw [show (listed.getD i false) = true from this] at hnd; cases hnd
    obtain ⟨fr, f1, f2⟩ := hI.fr
    by_cases hfresh : (stAt ss i).fresh = true
    · -- a variable is made
      obtain ⟨d, ty, cs, hop⟩ := fresh_inv hfresh
      have hf := (hK.fact i k hin hI.kle hlow hhigh)
      have hf : Fact E rec (afters ops) ss fr0 val S i k := by
        rcases hf with h | h | h
        · rw [hop] at h; simp [IStmt.pure, IOp.pure] at h
        · simp [IStmt.loud, hfresh] at h
        · exact h
      unfold Fact at hf
      rw [if_pos hfresh] at hf
      obtain ⟨d', ty', cs', e1, e2, e3⟩ := hf
      rw [hop] at e1; cases e1
      have hz := e2 e3
      obtain ⟨r, hvr⟩ := hK.fresh i hin hfresh
      rw [hvr] at hz
      simp only [zeroAt] at hz
      split at hz
      · rename_i u xs hlk
        simp only [Bool.and_eq_true] at hz
        have hu := Nat.eq_of_beq_eq_true hz.1
        have hxs := AV.eqbL_sound hz.2
        subst hu; subst hxs
        have hunb : G.unb r = true := (hI.unb r).2 (.inr ⟨i, hin, hfresh, hnd, hvr⟩)
        -- the operation
        have hlo : ∃ z, o.op = .alloc u ∧ zOf P u = some z ∧ xs = z.cells ∧ o.guard = none := by
          rw [← hstA, hop] at hls
          simp only [lowS] at hls
          cases hg : lowG ops o with
          | none => simp [hg] at hls
          | some g =>
            simp only [hg] at hls
            have key : ∀ n, lowOpB P ng n o.op = .alloc u xs → ∃ z, o.op = .alloc u ∧ zOf P u = some z ∧ xs = z.cells := by
              intro n hb
              unfold lowOpB at hb
              cases hq : lowOp P ng n o.op with
              | none => rw [hq] at hb; cases hb
              | some io => rw [hq] at hb; simp only [Option.getD_some] at hb; subst hb; exact lowOp_alloc hq
            have hgn : g = none → o.guard = none := by
              rintro rfl
              simp only [lowG] at hg
              cases hx : o.guard with
              | none => rfl
              | some jb =>
                obtain ⟨j, b⟩ := jb
                simp only [hx] at hg
                split at hg <;> cases hg
            split at hls
            · split at hls
              · simp at hls
              · simp at hls
            · simp only [Option.some.injEq, IStmt.op.injEq] at hls
              obtain ⟨_, hg0, hb⟩ := hls
              obtain ⟨z, z1, z2, z3⟩ := key _ hb
              exact ⟨z, z1, z2, z3, hgn hg0⟩
        obtain ⟨z, z1, z2, rfl, z4⟩ := hlo
        obtain ⟨zv, hz1, hz2⟩ := run_zeroValue z2 w
        obtain ⟨rz, hnt⟩ := ofV_rep G hz2
        obtain ⟨hr, hone⟩ := rz.nt_cells hnt
        have hw' : ({ w with heap := w.heap.push (.cells zv.cells u) } : World).heap = w.heap.push (.cells zv.cells u) := rfl
        obtain ⟨H, own', b1, b2, b3, b4⟩ := hI.rel.born hunb hlk hr hone hw'
        simp only [wpOpIn, ho]
        rw [if_pos (by simp [Region.wanted, z4])]
        have hndf : ∀ c, o.op ≠ .defer c := by intro c e; rw [z1] at e; cases e
        have hex : (execOp a.eval o).run P w = .ok (.value (.pointer (some ⟨w.heap.size, 0, none⟩))) { w with heap := w.heap.push (.cells zv.cells u) } := by simp [execOp, z1, Instr.alloc, hz1, newVar, newRow]
        simp only [Oper.wpIn, Oper.semAt_eq _ _ _ hndf, hex, Oper.uponIn]
        refine ⟨fun _ _ => trivial, ?_⟩
        refine ih listed' k _ _ H own' hsz' hm' ?_
        rw [← hdst]
        refine hI.step (v := .ptr r 0) hK hin hd hbe hnd (fun d _ _ => hvr.symm) (RepV.ptr r 0 w.heap.size 0 b1) b2 b3 (.inr ⟨by simp [IStmt.loud, hfresh], rfl⟩) (fun q => ?_)
        rw [b4 q, hvr]
        by_cases hq : q = r
        · subst hq; simp [hfresh]
        · have hq2 : ¬ r = q := fun h => hq h.symm
          simp [hq, hq2]
      · cases hz
    · have hfr' : (stAt ss i).fresh = false := by simpa using hfresh
      have hfin : ∀ {k' : Nat} {v : AV}, evSt E rec fr (S k) (stAt ss i) = some (v, S k') → (∀ d, (stAt ss i).dst = some d → d < fr0.length → v = val i) →
          ((stAt ss i).loud = true ∧ k' = k + 1 ∧ (louds ss)[k]? = some i ∨ (stAt ss i).loud = false ∧ k' = k) → wpO ro P ops Q i (wpAnyIn (Fw ro) 0 P md ops Q fuel listed') a w := by
        intro k' v hev hv hk'
        rw [hstA] at hev
        refine st_sound hE hls ho hI.rel f2 hev (fun u w' hp => ?_)
        obtain ⟨H, own', p1, p2, p3⟩ := hp
        refine ih listed' k' _ _ H own' hsz' hm' ?_
        rw [← hdst]
        refine hI.step hK hin hd hbe hnd hv p1 p2 p3.weak hk' (fun q => ?_)
        rw [p3.unb, hfr']; simp
      by_cases hquiet : (stAt ss i).quiet = true
      · have hl : (stAt ss i).loud = false := by simp [IStmt.loud, hquiet]
        rcases hK.fact i k hin hI.kle hlow hhigh with hp | h | h
        · obtain ⟨k0, hf⟩ := hK.factP i hin
          unfold Fact at hf
          rw [if_neg hfresh, if_pos hquiet] at hf
          obtain ⟨v, hev, hv⟩ := hf fr _ f1 hview
          exact hfin (evSt_pure hp hev (S k)) hv (.inr ⟨hl, rfl⟩)
        · rw [hl] at h; cases h
        · unfold Fact at h
          rw [if_neg hfresh, if_pos hquiet] at h
          obtain ⟨v, hev, hv⟩ := h fr _ f1 hview
          exact hfin hev hv (.inr ⟨hl, rfl⟩)
      · have hl : (stAt ss i).loud = true := by simp [IStmt.loud, hquiet, hfr']
        obtain ⟨q, hq⟩ := List.mem_iff_getElem?.1 (mem_louds.2 ⟨hin, hl⟩)
        have hge : ¬ q < k := fun hlt => by have := (hI.loud q i hq).2 hlt; rw [show (listed.getD i false) = true from this] at hnd; cases hnd
        have hqk : q = k := by
          rcases Nat.lt_or_ge k q with hlt | hge'
          · have hklt : k < (louds ss).length := Nat.lt_trans hlt (List.getElem?_eq_some_iff.1 hq).1
            have he : (louds ss)[k]? = some (louds ss)[k] := by simp [hklt]
            have hb := hK.tot _ (List.getElem_mem hklt) i (mem_louds.2 ⟨hin, hl⟩) (louds_lt he hq hlt)
            have := (hI.loud k _ he).1 (hbe _ hb)
            omega
          · omega
        subst hqk
        have hf := hK.factL i q hq
        unfold Fact at hf
        rw [if_neg hfresh, if_neg hquiet] at hf
        obtain ⟨v, hev, hv⟩ := hf.2 fr _ f1 hview
        exact hfin hev hv (.inl ⟨hl, rfl, hq⟩)

end
end Go.Am

namespace Go.Am

section
variable {P : Program} {ng : Nat} {E : Env} {rec : Rec} {G : Gh} {own : Own} {fr fr' fr0 frF : List AV} {a : Act} {w : World} {s s' sF : St} {ss : List IStmt} {ops : Array Oper} {Q : Exit → Act → World → Prop} {rest : List IStmt}

structure Pre (ss : List IStmt) (fr0 : List AV) (done : List Nat) (val : Nat → AV) (fr : List AV) (s : St) : Prop where
  mem : ∀ i ∈ done, i < ss.length ∧ (stAt ss i).fresh = true ∧ ∃ r, val i = .ptr r 0 ∧ r < s.next
  inj : ∀ i ∈ done, ∀ j ∈ done, val i = val j → i = j
  fr : Fr ss fr0 val (fun j => done.contains j) fr

theorem fresh_walk (hu : ∀ i, i < ss.length → ∀ t, (stAt ss i).dst = some t → writer ss t = some i) : ∀ (l done : List Nat) (fr : List AV) (s : St) (val0 : Nat → AV) (G : Gh), (∀ i ∈ l, i < ss.length ∧ (stAt ss i).fresh = true ∧ i ∉ done) → l.Nodup →
    Pre ss fr0 done val0 fr s → Rel P ng s w G own → evOps E rec (l.map (stAt ss) ++ rest) fr s = some (frF, sF) →
    ∃ (fr1 : List AV) (s1 : St) (val1 : Nat → AV) (G1 : Gh), evOps E rec rest fr1 s1 = some (frF, sF) ∧ Pre ss fr0 (l.reverse ++ done) val1 fr1 s1 ∧ Rel P ng s1 w G1 own ∧ G.le0 G1 ∧ s.next ≤ s1.next ∧ (∀ i ∈ done, val1 i = val0 i) ∧
      (∀ i ∈ l, ∀ r, val1 i = .ptr r 0 → s.next ≤ r) ∧ ∀ r, G1.unb r = true ↔ G.unb r = true ∨ ∃ i ∈ l, val1 i = .ptr r 0
  | [], done, fr, s, val0, G, hl, hn, hp, hR, he => ⟨fr, s, val0, G, he, hp, hR, Gh.le0.refl G, Nat.le_refl _, fun _ _ => rfl, by simp, by simp⟩
  | i :: l, done, fr, s, val0, G, hl, hn, hp, hR, he => by
    obtain ⟨h1, h2, h3⟩ := hl i (by simp)
    obtain ⟨d, ty, cs, hst⟩ := fresh_inv h2
    have hdst : (stAt ss i).dst = some d := by rw [hst]; rfl
    simp only [List.map_cons, List.cons_append] at he
    have hev : evSt E rec fr s (stAt ss i) = some (.ptr s.next 0, s.add (.cells ty cs)) := by rw [hst]; simp [evSt, wanted, evOp]
    rw [evOps_cons (by rw [hst]; rfl), hev] at he
    simp only at he
    let val1 : Nat → AV := fun j => if j = i then .ptr s.next 0 else val0 j
    have hv1 : ∀ j ∈ done, val1 j = val0 j := by
      intro j hj
      have : j ≠ i := by rintro rfl; exact h3 hj
      simp [val1, this]
    have hp1 : Pre ss fr0 (i :: done) val1 (setDst fr (stAt ss i).dst (.ptr s.next 0)) (s.add (.cells ty cs)) := by
      refine ⟨fun j hj => ?_, fun j hj k hk h => ?_, ?_⟩
      · rcases List.mem_cons.1 hj with rfl | hj
        · exact ⟨h1, h2, s.next, by simp [val1], by simp [St.add]⟩
        · obtain ⟨q1, q2, r, q3, q4⟩ := hp.mem j hj
          exact ⟨q1, q2, r, by rw [hv1 j hj]; exact q3, by simp only [St.add]; omega⟩
      · rcases List.mem_cons.1 hj with ej | hj'
        · rcases List.mem_cons.1 hk with ek | hk'
          · rw [ej, ek]
          · obtain ⟨_, _, r, q3, q4⟩ := hp.mem k hk'
            rw [hv1 k hk', q3, ej] at h
            simp [val1] at h; omega
        · rcases List.mem_cons.1 hk with ek | hk'
          · obtain ⟨_, _, r, q3, q4⟩ := hp.mem j hj'
            rw [hv1 j hj', q3, ek] at h
            simp [val1] at h; omega
          · rw [hv1 j hj', hv1 k hk'] at h; exact hp.inj j hj' k hk' h
      · have hf0 : Fr ss fr0 val1 (fun j => done.contains j) fr := hp.fr.congr (fun _ _ => rfl) (fun j _ hj => hv1 j (List.contains_iff_mem.1 hj))
        exact hf0.put (hu i h1) (fun _ _ _ => by simp [val1]) (fun j => by simp only [List.contains_cons]; rw [Bool.or_comm])
    have hn' := List.nodup_cons.1 hn
    obtain ⟨fr1, s1, val2, G1, g1, g2, g3, g4, g5, g6, g7, g8⟩ := fresh_walk hu l (i :: done) _ _ val1 (G.resv s.next) (fun j hj => by
      obtain ⟨q1, q2, q3⟩ := hl j (List.mem_cons_of_mem _ hj)
      refine ⟨q1, q2, fun hm => ?_⟩
      rcases List.mem_cons.1 hm with rfl | hm
      · exact hn'.1 hj
      · exact q3 hm) hn'.2 hp1 (hR.resv _) he
    have hvi : val2 i = .ptr s.next 0 := by rw [g6 i (by simp)]; simp [val1]
    refine ⟨fr1, s1, val2, G1, g1, by simpa using g2, g3, (G.resv_le _).trans g4, by simp only [St.add] at g5; omega, fun j hj => by rw [g6 j (List.mem_cons_of_mem _ hj), hv1 j hj], fun j hj r hr => ?_, fun r => ?_⟩
    · rcases List.mem_cons.1 hj with rfl | hj
      · rw [hvi] at hr; cases hr; exact Nat.le_refl _
      · have := g7 j hj r hr; simp only [St.add] at this; omega
    · rw [g8 r]
      simp only [Gh.resv]
      constructor
      · rintro (h | ⟨j, hj, hr⟩)
        · split at h
          · rename_i e; subst e; exact .inr ⟨i, by simp, hvi⟩
          · exact .inl h
        · exact .inr ⟨j, List.mem_cons_of_mem _ hj, hr⟩
      · rintro (h | ⟨j, hj, hr⟩)
        · left; split
          · rfl
          · exact h
        · rcases List.mem_cons.1 hj with rfl | hj
          · rw [hvi] at hr; cases hr; left; simp
          · exact .inr ⟨j, hj, hr⟩

theorem draw_sound {ro : Option Nat} {fl : Nat → Nat} {id : Nat} {sts : List IStmt} (hE : CallsR P ng E rec) (hl : lowReg P ng fl ops true = some sts) (hR : Rel P ng s w G own) (hf : RepF G fr a) (he : evOps E rec sts fr s = some (fr', s'))
    (hQ : ∀ a' w', After P ng G fr' s' a' w' → Q .normal a' w') : (Code.region id ops true).wpIn (Fw ro) 0 P Q a w := by
  simp only [lowReg] at hl
  split at hl
  · cases hl
  rename_i ss hll
  split at hl
  case isFalse h => exact absurd (by trivial) h
  split at hl
  case isFalse => cases hl
  rename_i hok
  cases hl
  have hn : ss.length = ops.size := by have := (lowL_get hll).1; simpa using this
  simp only [Bool.and_eq_true, drawOk] at hok
  obtain ⟨hord, ⟨⟨⟨hplan, heach⟩, htot⟩, hloudk⟩, hsome⟩ := hok
  have heach' : ∀ i, i < ss.length → _ := fun i hi => List.all_eq_true.1 heach i (by simpa using hi)
  have hu : ∀ i, i < ss.length → ∀ t, (stAt ss i).dst = some t → writer ss t = some i := by
    intro i hi t ht
    have := heach' i hi
    simp only [Bool.and_eq_true, ht, beq_iff_eq] at this
    exact this.1.1
  have hfmem : ∀ i, i ∈ fresh ss ↔ i < ss.length ∧ (stAt ss i).fresh = true := fun i => by simp [fresh]
  obtain ⟨fr1, s1, val1, G1, g1, g2, g3, g4, g5, g6, g7, g8⟩ := fresh_walk (fr0 := fr) hu (fresh ss) [] fr s (fun _ => .undef) G (fun i hi => ⟨((hfmem i).1 hi).1, ((hfmem i).1 hi).2, by simp⟩)
    (List.Nodup.sublist List.filter_sublist List.nodup_range) ⟨by simp, by simp, Fr.start (by simp)⟩ hR he
  rw [List.append_nil] at g2
  have hlr : ∀ i, i ∈ (fresh ss).reverse → i < ss.length := fun i hi => ((hfmem i).1 (by simpa using hi)).1
  obtain ⟨val, S, v1, v2, v3, v4, v5, v6⟩ := walk hu (plan (afters ops) ss) (fresh ss).reverse 0 fr1 s1 val1 hplan hlr g2.fr g1
  have hvf : ∀ i, i < ss.length → (stAt ss i).fresh = true → val i = val1 i := fun i hi hfr => v1 i (by simpa using (hfmem i).2 ⟨hi, hfr⟩)
  have hK : Known E rec ops ss fr fr' val S s' := by
    refine ⟨v4, v5, hu, fun i hi t ht j hw => ?_, fun i hi j hj hij => ?_, fun i k hi hk h1 h2 => ?_, fun i k hik => ?_, fun i hi => ?_, fun i hi hfr => ?_, fun i j hi hj hfi hfj h => ?_⟩
    · have := heach' i hi
      simp only [Bool.and_eq_true] at this
      have := List.all_eq_true.1 this.1.2 t ht
      simp only [hw, Bool.or_eq_true, beq_iff_eq] at this
      rcases this with (h | h) | h
      · exact .inl h
      · exact .inr (.inl h)
      · exact .inr (.inr h)
    · have := List.all_eq_true.1 (List.all_eq_true.1 htot i hi) j hj
      simp only [Bool.or_eq_true, Bool.not_eq_true', decide_eq_false_iff_not] at this
      rcases this with h | h
      · exact absurd hij h
      · exact h
    · have := heach' i hi
      simp only [Bool.and_eq_true] at this
      have := List.all_eq_true.1 this.2 k (by simp; omega)
      simp only [Bool.or_eq_true, Bool.not_eq_true', Bool.and_eq_false_iff, decide_eq_false_iff_not] at this
      rcases this with ((h | h) | h) | h
      · rcases h with h | h
        · exact absurd h1 h
        · exact absurd h2 h
      · exact .inl h
      · exact .inr (.inl h)
      · exact .inr (.inr (v6 i k (List.contains_iff_mem.1 h)))
    · have := List.all_eq_true.1 hloudk k (by simp; exact (List.getElem?_eq_some_iff.1 hik).1)
      simp only [hik] at this
      exact v6 i k (List.contains_iff_mem.1 this)
    · have := List.all_eq_true.1 hsome i (by simpa using hi)
      obtain ⟨p, hp, hpi⟩ := List.any_eq_true.1 this
      have hpi : p.1 = i := by simpa using hpi
      exact ⟨p.2, v6 i p.2 (by rw [← hpi]; exact hp)⟩
    · obtain ⟨_, _, r, hr, _⟩ := g2.mem i (by simpa using (hfmem i).2 ⟨hi, hfr⟩)
      exact ⟨r, by rw [hvf i hi hfr]; exact hr⟩
    · rw [hvf i hi hfi, hvf j hj hfj] at h
      exact g2.inj i (by simpa using (hfmem i).2 ⟨hi, hfi⟩) j (by simpa using (hfmem j).2 ⟨hj, hfj⟩) h
  have hfalse : ∀ i, (Array.replicate ops.size false).getD i false = false := by
    intro i
    by_cases h : i < ops.size <;> simp [Array.getD, h]
  have hI : Inv P ng G ops ss fr val S (fun i => (Array.replicate ops.size false).getD i false) 0 a { w with drawn := w.drawn + 1 } G1 own := by
    refine ⟨fun i j _ h => ?_, Nat.zero_le _, fun m i _ => ?_, ⟨fr, Fr.start (fun j _ => hfalse j), hf.1.mono0 g4, hf.2.trans g4.dl.symm⟩, ?_, g4, fun i hi hfr r hr => ?_, fun r => ?_⟩
    · exact absurd ((hfalse i).symm.trans h) (by simp)
    · simp only [hfalse]; simp
    · rw [v2]; exact g3.of_heap rfl
    · rw [hvf i hi hfr] at hr
      have := g7 i ((hfmem i).2 ⟨hi, hfr⟩) r hr
      cases hx : G.unb r with
      | false => rfl
      | true => have := (hR.unb r hx).1; omega
    · rw [g8 r]
      constructor
      · rintro (h | ⟨i, hi, hr⟩)
        · exact .inl h
        · obtain ⟨q1, q2⟩ := (hfmem i).1 hi
          exact .inr ⟨i, q1, q2, hfalse i, by rw [hvf i q1 q2]; exact hr⟩
      · rintro (h | ⟨i, hi, hfr, _, hr⟩)
        · exact .inl h
        · exact .inr ⟨i, (hfmem i).2 ⟨hi, hfr⟩, by rw [← hvf i hi hfr]; exact hr⟩
  have hany : ∀ md, (∀ e, Region.binds .any e = true → Region.binds md e = true) → (∃ l, orderOk md ops.toList l [] = true) → ∀ t, wpOpsIn (Fw ro) 0 P ops Q (Region.linearise md ops t) a { w with drawn := w.drawn + 1 } := by
    intro md hmd ho t
    have := any_sound (md := md) (ro := ro) hE hll hK hmd ho hQ ops.size (Array.replicate ops.size false) 0 a _ G1 own (by simp) ⟨List.range ops.size, by simp, fun i hi _ => by simpa using hi⟩ hI
    exact wpAnyIn_sound ops.size t _ _ _ this
  simp only [ordersOk, Bool.and_eq_true] at hord
  have hbind : ∀ md e, Region.binds .any e = true → Region.binds md e = true := by
    intro md e h
    unfold Region.binds at h ⊢
    split at h <;> simp_all
  refine wpIn_region_draw fun t => ?_
  simp only [Region.schedule]
  split
  · exact hany .any (hbind .any) ⟨_, hord.1.1⟩ t
  · split
    · exact hany .text (hbind .text) ⟨_, hord.1.2⟩ _
    · exact hany .gc (hbind .gc) ⟨_, hord.2⟩ _

end
end Go.Am

namespace Go.Am

def X.exit' : X → Exit
  | .normal => .normal
  | .exit id => .exit id
  | .ret => .ret

theorem RepV.rep_map {G : Gh} {f : AV → AV} (hf : ∀ {A : AV} {v : Value}, RepV G A v → RepV G (f A) v) {as : List AV} {vs : List Value} (r : RepL G as vs) : RepL G (as.map f) vs :=
  ⟨by simp [r.1], fun i a v x y => by
    rw [List.getElem?_map, Option.map_eq_some_iff] at x
    obtain ⟨b, hb, rfl⟩ := x
    exact hf (r.2 i b v hb y)⟩

theorem demA_one {a : AV} (h : a.one = true) : (demA a).one = true := by cases a <;> first | exact h | rfl

theorem demB_rep {G : Gh} {A : AV} {v : Value} (r : RepV G A v) : RepV G (demB A) v := by
  cases A <;> first
    | exact demA_rep r
    | (obtain ⟨vs, rfl, h1, h2⟩ := r.agg_inv
       have h3 := RepV.rep_map (f := demA) demA_rep h1
       exact .agg _ _ (by simpa using h3.1) (fun a ha => by
         obtain ⟨b, hb, rfl⟩ := List.mem_map.1 ha
         exact demA_one (h2 b hb)) (fun i a v x y => h3.2 i a v x (by simpa using y)))

theorem demC_rep {G : Gh} {A : AV} {v : Value} (r : RepV G A v) : RepV G (demC A) v := by
  cases A <;> first
    | exact demB_rep r
    | (obtain ⟨vs, rfl, h1⟩ := r.tup_inv
       have h3 := RepV.rep_map (f := demB) demB_rep h1
       exact .tup _ _ (by simpa using h3.1) (fun i a v x y => h3.2 i a v x (by simpa using y)))

section
variable {P : Program} {ng : Nat} {E : Env} {rec : Rec} {G : Gh} {own : Own} {fr fr' : List AV} {a : Act} {w : World} {s s' : St} {v : AV} {Q : Exit → Act → World → Prop}

theorem resV_run (hR : Rel P ng s w G own) (hf : RepF G fr a) : ∀ {rs : List ResultVar} {res : List Res} {vs : List AV}, lowR P rs = some res → resV fr s res = some vs →
    ∃ us : List Value, (rs.mapM fun | ResultVar.tmp t => (Pure.pure (a.tmps.getD t undef) : Sem Value) | .cell x t => do loadVar t (← asAddr (a.tmps.getD x undef))).run P w = .ok us w ∧ RepL G vs us
  | [], res, vs, hl, he => by
    simp [lowR] at hl; subst hl
    simp [resV] at he; subst he
    exact ⟨[], rfl, .nil G⟩
  | .tmp t :: r, res, vs, hl, he => by
    simp only [lowR, Option.map_eq_some_iff] at hl
    obtain ⟨l, hl, rfl⟩ := hl
    simp only [resV] at he
    split at he
    · rename_i vs' hvs
      cases he
      obtain ⟨us, h1, h2⟩ := resV_run hR hf hl hvs
      refine ⟨a.tmps.getD t undef :: us, by simp only [List.mapM_cons, Sem.run_bind, Sem.run_pure, Result.andThen_ok, h1], .cons ?_ h2⟩
      have := hf.1.getD (undef_rep G) t
      simpa [Array.getD_eq_getD_getElem?, List.getD_eq_getElem?_getD] using this
    · cases he
  | .cell t ty :: r, res, vs, hl, he => by
    simp only [lowR] at hl
    split at hl
    · rename_i k l hk hl'
      cases hl
      simp only [resV] at he
      split at he
      · rename_i cs hcs
        split at he
        · rename_i v hv
          split at he
          · rename_i vs' hvs
            cases he
            obtain ⟨us, h1, h2⟩ := resV_run hR hf hl' hvs
            have rt : RepV G (fr.getD t .undef) (a.tmps.getD t undef) := by
              have := hf.1.getD (undef_rep G) t
              simpa [Array.getD_eq_getD_getElem?, List.getD_eq_getElem?_getD] using this
            obtain ⟨b, m, ws, e1, e2, e3, e4⟩ := cellsAt_rep hR rt hcs
            obtain ⟨u, hu, hr⟩ := loadVar_run hk e2 e3 e4 hv
            refine ⟨u :: us, ?_, .cons hr h2⟩
            have ea : ∀ x : Addr, (asAddr (.pointer (some x))).run P w = .ok x w := fun _ => rfl
            simp only [List.mapM_cons, Sem.run_bind, e1, ea, Sem.run_pure, Result.andThen_ok, hu, h1]
          · cases he
        · cases he
      · cases he
    · cases hl

theorem results_run {fn : Func} (hR : Rel P ng s w G own) (hf : RepF G fr a) {res : List Res} {vs : List AV} (hl : lowR P fn.results.toList = some res) (he : resV fr s res = some vs) :
    ∃ u, (results fn a.tmps).run P w = .ok u w ∧ RepV G (packR vs) u := by
  obtain ⟨us, h1, h2⟩ := resV_run (P := P) hR hf hl he
  have hm : (fn.results.mapM fun | ResultVar.tmp t => (Pure.pure (a.tmps.getD t undef) : Sem Value) | .cell x t => do loadVar t (← asAddr (a.tmps.getD x undef))).run P w = .ok us.toArray w := by
    rw [Array.mapM_eq_mapM_toList, Sem.run_map, h1]; rfl
  unfold results
  simp only [Sem.run_bind]
  refine ⟨if h : us.toArray.size = 1 then us.toArray[0] else .tuple us.toArray, ?_, ?_⟩
  · erw [hm]; simp only [Result.andThen_ok, Sem.run_pure]
  · have hlen := h2.1
    match vs, us, hlen, h2 with
    | [], [], _, h2 => exact .tup [] #[] rfl (fun i a v h => by simp at h)
    | [v], [u], _, h2 => simpa [packR] using h2.head
    | v1 :: v2 :: vs, u1 :: u2 :: us, hlen, h2 =>
      have : ¬ (u1 :: u2 :: us).toArray.size = 1 := by simp
      rw [dif_neg this]
      exact .tup _ _ (by simpa using hlen) (fun i a v x y => h2.2 i a v x (by simpa using y))

/-! Deferred calls -/

/-- All but the frame's deferred calls. -/
structure _root_.Go.Am.Gh.leC (G H : Gh) : Prop extends Gh.le3 G H where
  unb : H.unb = G.unb

theorem _root_.Go.Am.Gh.leC.refl (G : Gh) : G.leC G := ⟨Gh.le3.refl G, rfl⟩
theorem _root_.Go.Am.Gh.leC.trans {G H K : Gh} (h : G.leC H) (k : H.leC K) : G.leC K := ⟨h.tole3.trans k.tole3, k.unb.trans h.unb⟩
theorem _root_.Go.Am.Gh.le.c {G H : Gh} (h : G.le H) : G.leC H := ⟨h.tole3, h.unb⟩
theorem _root_.Go.Am.Gh.leC.setD {G H : Gh} (h : G.leC H) (d : List Deferred) : G.leC (H.setD d) := ⟨h.tole3.trans (H.setD_le d), h.unb⟩
theorem _root_.Go.Am.Gh.leC.back {G H : Gh} (h : G.leC H) : G.le (H.setD G.dl) := ⟨⟨h.tole3.trans (H.setD_le _), rfl⟩, h.unb⟩
theorem _root_.Go.Am.Gh.leC.ofD {G H : Gh} {d : List Deferred} (h : (G.setD d).leC H) : G.leC H := ⟨(G.setD_le d).trans h.tole3, h.unb⟩

/-- A deferred call, or a mark. -/
def DOk (G : Gh) : D → Deferred → Prop
  | .rd, _ => False
  | .mark id, d => ∃ b, G.loc id = some (b, 0) ∧ d = { target := .collected b, args := #[] }
  | .call v args, d => ∃ (f : Nat) (us vs : Array Value) (xs : List Value), RepV G v (.func (.func f) us vs) ∧ RepL G args xs ∧ d = { target := .fn (.func f) vs, args := us ++ xs.toArray }

theorem DOk.mono {G H : Gh} (h : G.le3 H) {x : D} {d : Deferred} (r : DOk G x d) : DOk H x d := by
  cases x with
  | rd => exact r
  | mark id => obtain ⟨b, h1, h2⟩ := r; exact ⟨b, h.loc _ _ h1, h2⟩
  | call v args => obtain ⟨f, us, vs, xs, h1, h2, h3⟩ := r; exact ⟨f, us, vs, xs, h1.mono3 h, h2.mono3 h, h3⟩

/-- The deferred calls of a frame. -/
inductive DsOk (G : Gh) : List D → List Deferred → Prop
  | nil : DsOk G [] []
  | cons {x : D} {d : Deferred} {xs : List D} {ds : List Deferred} (h : DOk G x d) (t : DsOk G xs ds) : DsOk G (x :: xs) (d :: ds)

theorem DsOk.mono {G H : Gh} (h : G.le3 H) {x : List D} {d : List Deferred} (r : DsOk G x d) : DsOk H x d := by
  induction r with
  | nil => exact .nil
  | cons a _ ih => exact .cons (a.mono h) ih

/-- In a round, nothing is deferred. -/
def DF (G : Gh) : Option Nat → List D → Prop
  | none, ds => DsOk G ds G.dl
  | some _, ds => ds = [.rd] ∧ G.dl = []

theorem DF.of {G H : Gh} (h : G.le0 H) {r : Option Nat} {ds : List D} (d : DF G r ds) : DF H r ds := by
  cases r with
  | none => show DsOk H ds H.dl; rw [h.dl]; exact DsOk.mono h.tole3 d
  | some l => exact ⟨d.1, h.dl.trans d.2⟩

/-- What holds behind a piece of code. -/
def AfterC (P : Program) (ng : Nat) (G : Gh) (r : Option Nat) (fr' : List AV) (ds' : List D) (s' : St) (a' : Act) (w' : World) : Prop :=
  ∃ H own', RepF H fr' a' ∧ Rel P ng s' w' H own' ∧ G.leC H ∧ DF H r ds'

theorem AfterC.of {r : Option Nat} {fr' : List AV} {ds : List D} {s' : St} {a' : Act} {w' : World} (hd : DF G r ds) (h : After P ng G fr' s' a' w') : AfterC P ng G r fr' ds s' a' w' := by
  obtain ⟨H, own', h1, h2, h3⟩ := h
  exact ⟨H, own', h1, h2, h3.c, hd.of h3.weak⟩

/-- The evaluator's code is right. -/
def CodeR (P : Program) (ng : Nat) (rec : Rec) : Prop :=
  ∀ (r : Option Nat) (c : Code) (ic : ICode) (fl : Nat → Nat) (fr : List AV) (ds : List D) (s : St) (x : X) (fr' : List AV) (ds' : List D) (s' : St) (G : Gh) (own : Own) (a : Act) (w : World) (Q : Exit → Act → World → Prop),
    low P ng fl c = some ic → Rel P ng s w G own → RepF G fr a → DF G r ds → rec ic fr ds s = some (x, fr', ds', s') → (∀ a' w', AfterC P ng G r fr' ds' s' a' w' → Q x.exit' a' w') → c.wpIn (Fw r) 0 P Q a w

/-- What a deferred call of a function does, on the way out of a frame that returns. -/
def DoesD (P : Program) (f : FuncId) (args : Array Value) (w : World) (R : World → Prop) : Prop :=
  (callFunc f args).run P w = .ok (.enter f args) w ∧ CallsDIn (Fw none) 0 P f args .returning w fun e u' w' => u' = .returning ∧ (∃ v, e = .returned v) ∧ R w'

/-- What the environment of the evaluation says of the program. -/
structure EnvOk (P : Program) (ng : Nat) (E : Env) : Prop where
  fn : ∀ f fi, E.fn f = some fi → ∃ fn c fl, P.funcs[f]? = some fn ∧ fn.body = some c ∧ (fn.name == "runtime.NumGoroutine") = false ∧ low P ng fl c = some fi.body ∧ lowR P fn.results.toList = some fi.res ∧ fi.ntmps = fn.ntmps
  sp : ∀ f h, E.sp f = some h → ∀ (args : List AV) (s : St) (v : AV) (s' : St) (G : Gh) (own : Own) (w : World) (us : List Value), h args s = some (v, s') → Rel P ng s w G own → RepL G args us → Does P f us.toArray w (Post P ng G v s')
  dsp : ∀ f h, E.dsp f = some h → ∀ (args : List AV) (s s' : St) (G : Gh) (own : Own) (w : World) (us : List Value), h args s = some s' → Rel P ng s w G own → RepL G args us →
    DoesD P f us.toArray w (fun w' => ∃ H own', Rel P ng s' w' H own' ∧ G.leC H)

theorem frame0_rep {fi : IFunc} {fn : Func} {args : List AV} {us : List Value} (hn : fi.ntmps = fn.ntmps) (hr : RepL G args us) :
    RepF (G.setD []) (frame0 fi args) { tmps := us.toArray ++ Array.replicate (fn.ntmps - us.toArray.size) undef, defers := [] } := by
  refine ⟨?_, rfl⟩
  have hsz : args.length = us.length := hr.1
  simp only [frame0, Array.toList_append, Array.toList_replicate, List.size_toArray, hn, hsz]
  refine (hr.mono3 (G.setD_le [])).append ⟨by simp, fun i A u x y => ?_⟩
  rw [List.getElem?_replicate] at x y
  split at x
  · rename_i hlt; rw [if_pos hlt] at y; cases x; cases y; exact undef_rep _
  · cases x

/-- The results of a function at its end. -/
theorem outs_run {fi : IFunc} {fn : Func} {base : Nat} {H : Gh} {own' : Own} {tmps : Array Value} {w' : World} {s1 : St} (h5 : lowR P fn.results.toList = some fi.res) (hR : Rel P ng s1 w' H own') (hf : RepL H fr' tmps.toList)
    (he : outs fi base fr' s1 = some (v, s')) : ∃ u, (results fn tmps).run P w' = .ok u w' ∧ RepV H v u ∧ Rel P ng s' w' H own' := by
  unfold outs at he
  split at he
  · rename_i vs hvs
    cases he
    obtain ⟨u, hu, hru⟩ := results_run (a := { tmps := tmps, defers := H.dl }) hR ⟨hf, rfl⟩ h5 hvs
    refine ⟨u, hu, ?_, hR.forget drop_sub⟩
    split
    · exact demC_rep hru
    · exact hru
  · cases he

/-- A deferred call of a function with a body that defers nothing. -/
theorem calls0_sound (hV : EnvOk P ng E) (hC : CodeR P ng rec) {f : Nat} {args : List AV} {us : List Value} (he : evCall0 E rec f args s = some (v, s')) (hR : Rel P ng s w G own) (hr : RepL G args us) :
    DoesD P f us.toArray w (fun w' => ∃ H own', Rel P ng s' w' H own' ∧ G.leC H) := by
  unfold evCall0 at he
  split at he
  case h_2 => cases he
  rename_i fi hfi
  obtain ⟨fn, c, fl, h1, h2, h3, h4, h5, h6⟩ := hV.fn f fi hfi
  have hbn : fn.body.isNone = false := by rw [h2]; rfl
  have h3' : ¬ fn.name = "runtime.NumGoroutine" := by simpa using h3
  refine ⟨by simp [callFunc, program, Sem.run, h1, h3', h2], ?_⟩
  have key : CallsDIn (Fw none) 0 P f us.toArray .returning w fun e u' w' => u' = .returning ∧ Ret (fun _ w' => ∃ H own', Rel P ng s' w' H own' ∧ G.leC H) e w' := by
    refine callsDIn_of_wp h1 h2 trivial ?_
    unfold finish0 at he
    split at he
    case h_2 => cases he
    rename_i x fr1 ds1 s1 hrec
    split at he
    case h_2 => cases he
    refine hC none c fi.body fl _ [] s x fr1 [] s1 (G.setD []) own _ w _ h4 (hR.setD []) (frame0_rep h6 hr) .nil hrec (fun a' w' hA => ?_)
    obtain ⟨H, own', q1, q2, q3, q4⟩ := hA
    have hdl : H.dl = [] := by have : DsOk H [] H.dl := q4; cases h : H.dl with | nil => rfl | cons a b => rw [h] at this; cases this
    have fin : outs fi s.next fr1 s1 = some (v, s') → a'.defers = [] ∧ ∃ v', (results fn a'.tmps).run P w' = .ok v' w' ∧ Ret (fun _ w' => ∃ H own', Rel P ng s' w' H own' ∧ G.leC H) (.returned v') w' := by
      intro ho
      obtain ⟨u, hu, _, hr'⟩ := outs_run h5 q2 q1.1 ho
      exact ⟨q1.2.trans hdl, u, hu, H, own', hr', q3.ofD⟩
    cases x with
    | exit id => simp at he
    | normal => exact fin he
    | ret => exact fin he
  refine ⟨trivial, fun c0 cs hu hr => ?_⟩
  obtain ⟨e, u', w', fr0, ⟨k1, k2⟩, k3⟩ := key.2 c0 cs hu hr
  refine ⟨e, u', w', fr0, ⟨k1, ?_⟩, k3⟩
  cases e with
  | returned v => exact ⟨⟨v, rfl⟩, k2⟩
  | panicked c => exact k2.elim
  | outgrown => exact k2.elim

/-- A block that is no row of cells changes. -/
theorem turn_cellless {id b : Nat} {x y : Go.Obj} {w' : World} (hb : w.heap[b]? = some x) (hx : x.cellless = true) (hy : y.cellless = true) (ho : own b 0 = some id) (hw : w'.heap = w.heap.setIfInBounds b y) (ho' : w'.os = w.os ∧ w'.output = w.output := by exact ⟨rfl, rfl⟩) : Turn w w' own id := by
  obtain ⟨h1, h2, h3⟩ := heap_set_map hb w' hw
  refine ⟨h1, fun c d t f hc => ?_, fun c d t f hc => ?_, fun c z hc _ hn => ?_, ?_⟩
  · have : c ≠ b := by rintro rfl; rw [hb] at hc; cases hc; cases hx
    exact ⟨d, by rw [h3 c this]; exact hc, rfl, fun _ _ => rfl⟩
  · have : c ≠ b := by rintro rfl; rw [h2] at hc; cases hc; cases hy
    exact ⟨d, by rw [h3 c this] at hc; exact hc⟩
  · have : c ≠ b := by rintro rfl; exact hn ho
    rw [h3 c this]; exact hc
  · exact ho'

/-- An object is given up. -/
theorem rel_del {id b : Nat} {o : Obj} {x y : Go.Obj} {w' : World} (hR : Rel P ng s w G own) (hk : look s.objs id = some o) (hb : w.heap[b]? = some x) (hx : x.cellless = true) (hy : y.cellless = true) (ho : own b 0 = some id)
    (hw : w'.heap = w.heap.setIfInBounds b y) (ho' : w'.os = w.os ∧ w'.output = w.output := by exact ⟨rfl, rfl⟩) : ∃ H own', Rel P ng (s.del id) w' H own' ∧ G.le H := by
  have := hR.turn (w' := w') (id := id) (o := o) hk (turn_cellless hb hx hy ho hw ho') (fun _ _ => none) none (fun _ _ => false) none (fun _ _ _ _ h => by cases h) (fun _ _ _ _ _ h _ _ => by cases h) (fun _ _ _ _ h _ => by cases h)
    (fun p h => by cases h) (fun h => by cases h) (fun x h => by cases h)
  exact ⟨_, _, this, hR.turn_le id _ _⟩

theorem setObj_run {b : Nat} {x : Go.Obj} (hb : w.heap[b]? = some x) (hx : x.cellless = true) (ob : Go.Obj) : (setObj b ob).run P w = .ok () { w with heap := w.heap.setIfInBounds b ob } := by
  simp only [setObj, Sem.run, hb]
  cases x <;> first | rfl | cases hx
theorem getObj_run {b : Nat} {x : Go.Obj} (hb : w.heap[b]? = some x) (hx : x.cellless = true) : (getObj b).run P w = .ok x w := by
  simp only [getObj, Sem.run, hb]
  cases x <;> first | rfl | cases hx

/-- On the way out. -/
theorem leaves_sound (hV : EnvOk P ng E) (hC : CodeR P ng rec) {fn : Func} {tmps : Array Value} {R : Ending → World → Prop} {s1 : St} : ∀ (ds : List D) (dl : List Deferred) (s : St) (w : World) (G : Gh) (own : Own), DsOk G ds dl → runD E rec ds s = some s1 →
    Rel P ng s w G own → (∀ w' H own', Rel P ng s1 w' H own' → G.leC H → ∃ v, (results fn tmps).run P w' = .ok v w' ∧ R (.returned v) w') → LeavesInM (Fw none) 0 P fn tmps R dl .returning w
  | [], _, s, w, G, own, .nil, he, hR, hQ => by
    cases he
    exact hQ w G own hR (Gh.leC.refl G)
  | .rd :: _, _, s, w, G, own, .cons h _, he, hR, hQ => h.elim
  | .mark id :: ds, d :: dl, s, w, G, own, .cons h t, he, hR, hQ => by
    obtain ⟨b, hb, rfl⟩ := h
    unfold runD at he
    split at he
    case h_2 => cases he
    rename_i hlk
    obtain ⟨b', k1, k2, k3⟩ := hR.objL hlk hb
    rw [hb] at k1; cases k1
    refine ⟨by simp, .inl ⟨b, { w with heap := w.heap.setIfInBounds b (.deferred none) }, rfl, ?_, ?_⟩⟩
    · simp only [Instr.takeDeferred, Sem.run_bind, getObj_run k2 rfl, Result.andThen_ok, setObj_run k2 rfl]; rfl
    · obtain ⟨H, own', q1, q2⟩ := rel_del hR hlk k2 rfl rfl k3 (y := .deferred none) (w' := { w with heap := w.heap.setIfInBounds b (.deferred none) }) rfl
      refine leaves_sound hV hC ds dl _ _ H own' (t.mono q2.tole3) he q1 (fun w' H' own2 r1 r2 => hQ w' H' own2 r1 (q2.c.trans r2))
  | .call v args :: ds, d :: dl, s, w, G, own, .cons h t, he, hR, hQ => by
    obtain ⟨f, us, vs, xs, h1, h2, rfl⟩ := h
    unfold runD at he
    split at he
    case h_2 => cases he
    rename_i f' first captured
    split at he
    case h_2 => cases he
    rename_i s2 hs2
    cases h1 with
    | fn _ _ _ _ _ e1 e2 r1 r2 =>
      have ra : RepL G (first ++ (args ++ captured)) (us.toList ++ (xs ++ vs.toList)) :=
        RepL.append ⟨by simpa using e1, fun i a v x y => r1 i a v x (by simpa using y)⟩ (RepL.append h2 ⟨by simpa using e2, fun i a v x y => r2 i a v x (by simpa using y)⟩)
      have hd : DoesD P f (us.toList ++ (xs ++ vs.toList)).toArray w (fun w' => ∃ H own', Rel P ng s2 w' H own' ∧ G.leC H) := by
        split at hs2
        · rename_i hh hsp
          exact hV.dsp f hh hsp _ _ _ G own w _ hs2 hR ra
        · split at hs2
          · rename_i v2 s3 h0
            cases hs2
            exact calls0_sound hV hC h0 hR ra
          · cases hs2
      have harr : (us.toList ++ (xs ++ vs.toList)).toArray = us ++ xs.toArray ++ vs := by apply Array.ext'; simp
      rw [harr] at hd
      obtain ⟨hd1, hd2⟩ := hd
      refine ⟨by simp, .inr ⟨nofun, .func f, vs, f, us ++ xs.toArray ++ vs, rfl, hd1, fun _ _ => trivial, ?_⟩⟩
      refine ⟨trivial, fun c0 cs hu hr => ?_⟩
      obtain ⟨e, u', w', fr0, ⟨k1, ⟨v', rfl⟩, H, own', k2, k3⟩, k4⟩ := hd2.2 c0 cs hu hr
      refine ⟨.returned v', u', w', fr0, ?_, k4⟩
      subst k1
      exact leaves_sound hV hC ds dl _ _ H own' (t.mono k3.tole3) he k2 (fun w' H' own2 r1 r2 => hQ w' H' own2 r1 (k3.trans r2))

end
end Go.Am

namespace Go.Am

section
variable {P : Program} {ng : Nat} {E : Env} {rec : Rec} {G : Gh} {own : Own} {fr fr' : List AV} {a : Act} {w : World} {s s' : St} {v : AV} {Q : Exit → Act → World → Prop}

theorem enter_sound (hV : EnvOk P ng E) (hC : CodeR P ng rec) {f : Nat} {args : List AV} {us : List Value} (he : evCallF E rec f args s = some (v, s')) (hR : Rel P ng s w G own) (hr : RepL G args us) :
    (callFunc f us.toArray).run P w = .ok (.enter f us.toArray) w ∧ Calls P f us.toArray w (Ret (Post P ng G v s')) := by
  unfold evCallF at he
  split at he
  case h_2 => cases he
  rename_i fi hfi
  obtain ⟨fn, c, fl, h1, h2, h3, h4, h5, h6⟩ := hV.fn f fi hfi
  have hbn : fn.body.isNone = false := by rw [h2]; rfl
  have h3' : ¬ fn.name = "runtime.NumGoroutine" := by simpa using h3
  refine ⟨by simp [callFunc, program, Sem.run, h1, h3', h2], calls_of_fw (r := none) (n := 0) (callsIn_of_wp_marks h1 h2 trivial ?_)⟩
  unfold finish at he
  split at he
  case h_2 => cases he
  rename_i x fr1 ds1 s1 hrec
  refine hC none c fi.body fl _ [] s x fr1 ds1 s1 (G.setD []) own _ w _ h4 (hR.setD []) (frame0_rep h6 hr) .nil hrec (fun a' w' hA => ?_)
  obtain ⟨H, own', q1, q2, q3, q4⟩ := hA
  have fin : ∀ {s2 : St}, runD E rec ds1 s1 = some s2 → outs fi s.next fr1 s2 = some (v, s') → LeavesInM (Fw none) 0 P fn a'.tmps (Ret (Post P ng G v s')) a'.defers .returning w' := by
    intro s2 hd ho
    rw [q1.2]
    refine leaves_sound hV hC ds1 H.dl s1 w' H own' q4 hd q2 (fun w2 H2 own2 r1 r2 => ?_)
    obtain ⟨u, hu, k1, k2⟩ := outs_run h5 r1 (q1.1.mono3 r2.tole3) ho
    exact ⟨u, hu, H2.setD G.dl, own2, k1.mono3 (H2.setD_le _), k2.setD _, (q3.ofD.trans r2).back⟩
  cases x with
  | exit id => simp at he
  | normal =>
    simp only at he
    split at he
    · rename_i s2 hd; exact fin hd he
    · cases he
  | ret =>
    simp only at he
    split at he
    · rename_i s2 hd; exact fin hd he
    · cases he

theorem call_sound (hV : EnvOk P ng E) (hC : CodeR P ng rec) {f : Nat} {args : List AV} {us : List Value} (he : evCall E rec f args s = some (v, s')) (hR : Rel P ng s w G own) (hr : RepL G args us) :
    Does P f us.toArray w (Post P ng G v s') := by
  unfold evCall at he
  split at he
  · rename_i h hs
    split at he
    · rename_i q hq
      cases he
      exact hV.sp f h hs args s v s' G own w us hq hR hr
    · exact .inr ⟨_, _, _, (enter_sound hV hC he hR hr).1, (enter_sound hV hC he hR hr).2⟩
  · exact .inr ⟨_, _, _, (enter_sound hV hC he hR hr).1, (enter_sound hV hC he hR hr).2⟩

theorem setPs_rep : ∀ {ps : List Nat} {as : List AV} {us : List Value} {fr : List AV} {tmps : Array Value}, RepL G fr tmps.toList → RepL G as us →
    RepL G (setPs fr ps as) ((ps.zip us).foldl (fun (tmps : Array Value) (p : Nat × Value) => tmps.setIfInBounds p.1 p.2) tmps).toList
  | [], as, us, fr, tmps, hf, ha => by simpa [setPs] using hf
  | p :: ps, [], us, fr, tmps, hf, ha => by
    have : us = [] := by have := ha.1; simpa using this.symm
    subst this; simpa [setPs] using hf
  | p :: ps, A :: as, [], fr, tmps, hf, ha => by have := ha.1; simp at this
  | p :: ps, A :: as, u :: us, fr, tmps, hf, ha => by
    simp only [setPs, List.zip_cons_cons, List.foldl_cons]
    exact setPs_rep (by simpa using hf.set ha.head p) ha.tail

theorem loop_set {id l : Nat} {fr1 fr2 : List AV} {ps : List Nat} {A B : ICode} {st st' : LS} {r : Loop} (hR : Rel P ng s w G own) (hlk : look s.objs id = some (.loop fr1 ps A B st)) (hloc : G.loc id = some (l, 0))
    (hb : w.heap[l]? = some (.loop r)) {r' : Loop} (h1 : r'.tmps = r.tmps) (h2 : r'.params = r.params) (h3 : r'.assign = r.assign) (h4 : r'.body = r.body) (h5 : st'.ok r') :
    Rel P ng (s.set id (.loop fr1 ps A B st')) { w with heap := w.heap.setIfInBounds l (.loop r') } G own := by
  obtain ⟨d, r0, k1, k2, k3, k4, k5, k6, k7, k8⟩ := hR.objL hlk hloc
  rw [hloc] at k1; cases k1
  rw [hb] at k2; cases k2
  obtain ⟨e1, e2, e3⟩ := heap_set_map hb { w with heap := w.heap.setIfInBounds l (.loop r') } rfl
  exact hR.write hlk (turn_cellless hb rfl rfl k8 rfl) ⟨l, r', hloc, e2, by rw [h1]; exact k3, by rw [h2]; exact k4, by rw [h3]; exact k5, by rw [h4]; exact k6, h5, k8⟩

/-- A round. -/
theorem yield_sound (hC : CodeR P ng rec) (ro : Option Nat) {id l : Nat} {args : List AV} {us : List Value} (he : evYield rec id args s = some (v, s')) (hR : Rel P ng s w G own) (hr : RepL G args us) (hloc : G.loc id = some (l, 0)) :
    ∃ f tmps assign body, (Instr.yield l us.toArray).run P w = .ok (.round l f tmps assign body) w ∧ RoundIn (Fw ro) 0 P l f tmps assign body w (Ret (Post P ng G v s')) := by
  unfold evYield at he
  split at he
  case h_2 => cases he
  rename_i fr0 ps A B hlk
  obtain ⟨d, r, k1, k2, k3, k4, ⟨fl1, k5⟩, ⟨fl2, k6⟩, ⟨k7, k7'⟩, k8⟩ := hR.objL hlk hloc
  rw [hloc] at k1; cases k1
  split at he
  case isFalse => cases he
  rename_i hlen
  have hsz : us.length = r.params.size := by
    have e1 : ps.length = r.params.size := by rw [← k4]; simp
    rw [← hr.1, hlen, e1]
  split at he
  case h_2 => cases he
  rename_i fr1 ds1 s1 hrec1
  split at he
  case h_2 => cases he
  rename_i fr1' ps1 a1 b1 hlk1
  split at he
  case h_2 => cases he
  rename_i x fr2 ds2 s2 hrec2
  split at he
  case h_2 => cases he
  rename_i fr2' ps2 a2 b2 hlk2
  refine ⟨r.fn, (r.params.zip us.toArray).foldl (fun tmps (t, a) => tmps.setIfInBounds t a) r.tmps, r.assign, r.body, ?_, roundIn_of_wpIn trivial ?_⟩
  · simp only [Instr.yield, Instr.getLoop, Sem.run_bind, getObj_run k2 rfl, Result.andThen_ok, Sem.run_pure]
    rw [if_neg (by simp [hsz])]
    rfl
  · have hf0 : RepF (G.setD []) (setPs fr0 ps args) { tmps := (r.params.zip us.toArray).foldl (fun tmps (t, a) => tmps.setIfInBounds t a) r.tmps, defers := [] } := by
      refine ⟨?_, rfl⟩
      have := setPs_rep (ps := ps) k3 hr
      have e : ((r.params.zip us.toArray).foldl (fun (tmps : Array Value) (p : Nat × Value) => tmps.setIfInBounds p.1 p.2) r.tmps) = ((ps.zip us).foldl (fun (tmps : Array Value) (p : Nat × Value) => tmps.setIfInBounds p.1 p.2) r.tmps) := by
        rw [← Array.foldl_toList, Array.toList_zip, k4]
      rw [← e] at this
      exact this.mono3 (G.setD_le [])
    refine hC (some l) r.assign A fl1 _ [.rd] s .normal fr1 ds1 s1 (G.setD []) own _ w _ k5 (hR.setD []) hf0 ⟨rfl, rfl⟩ hrec1 (fun a1' w1 hA => ?_)
    obtain ⟨H, own1, q1, q2, q3, q4⟩ := hA
    have hloc1 : H.loc id = some (l, 0) := q3.loc _ _ hloc
    obtain ⟨d, r1, m1, m2, m3, m4, _, _, ⟨m7, m7'⟩, m8⟩ := q2.objL hlk1 hloc1
    rw [hloc1] at m1; cases m1
    have hb1 := loop_set (st' := .busy) (fr2 := fr1') q2 hlk1 hloc1 m2 (r' := { r1 with state := .busy }) rfl rfl rfl rfl rfl
    refine ⟨{ w1 with heap := w1.heap.setIfInBounds l (.loop { r1 with state := .busy }) }, ?_, ?_⟩
    · simp only [Instr.beginRound, Instr.getLoop, Sem.run_bind, getObj_run m2 rfl, Result.andThen_ok, setObj_run m2 rfl, Sem.run_pure, m7]
    · refine hC (some l) r.body B fl2 fr1 [.rd] _ x fr2 ds2 s2 H own1 a1' _ _ k6 hb1 q1 ⟨rfl, q4.2⟩ hrec2 (fun a2' w2 hA2 => ?_)
      obtain ⟨H2, own2, p1, p2, p3, p4⟩ := hA2
      have hloc2 : H2.loc id = some (l, 0) := p3.loc _ _ hloc1
      obtain ⟨d, r2, n1, n2, n3, n4, _, _, n7, n8⟩ := p2.objL hlk2 hloc2
      rw [hloc2] at n1; cases n1
      have hle : G.leC H2 := q3.ofD.trans p3
      have fin : ∀ (j : Option Code) (st' : LS) (b : Bool), b = j.isNone → v = .bool b → s' = s2.set id (.loop fr2' ps2 a2 b2 st') → st'.ok { r2 with state := if j.isNone then .ready else .done, pending := j } →
          ∃ u w', (Instr.endRound l j).run P w2 = .ok u w' ∧ Ret (Post P ng G v s') (.returned u) w' := by
        intro j st' b hb hv hs hst
        subst hv; subst hs; subst hb
        refine ⟨.bool j.isNone, { w2 with heap := w2.heap.setIfInBounds l (.loop { r2 with state := if j.isNone then .ready else .done, pending := j }) }, ?_, H2.setD G.dl, own2, .bool _, ?_, hle.back⟩
        · simp only [Instr.endRound, Instr.getLoop, Sem.run_bind, getObj_run n2 rfl, Result.andThen_ok, setObj_run n2 rfl, Sem.run_pure]
        · exact (loop_set (st' := st') (fr2 := fr2') p2 hlk2 hloc2 n2 (r' := { r2 with state := if j.isNone then .ready else .done, pending := j }) rfl rfl rfl rfl hst).setD _
      cases x with
      | normal =>
        simp only [Option.some.injEq, Prod.mk.injEq] at he
        exact fin none .ready true rfl he.1.symm he.2.symm ⟨rfl, rfl⟩
      | exit i =>
        simp only [Option.some.injEq, Prod.mk.injEq] at he
        exact fin (some (.exit i)) (.done (.exit i)) false rfl he.1.symm he.2.symm ⟨rfl, rfl, rfl⟩
      | ret =>
        simp only [Option.some.injEq, Prod.mk.injEq] at he
        exact fin (some .ret) (.done .ret) false rfl he.1.symm he.2.symm ⟨rfl, rfl, rfl⟩

theorem calls_sound (hV : EnvOk P ng E) (hC : CodeR P ng rec) : CallsR P ng E rec :=
  ⟨fun _ _ _ _ _ _ _ _ _ he hR hr => call_sound hV hC he hR hr, fun _ _ _ _ _ _ _ _ _ he hR hr => enter_sound hV hC he hR hr, fun r _ _ _ _ _ _ _ _ _ _ he hR hr hl => yield_sound hC r he hR hr hl⟩

end
end Go.Am

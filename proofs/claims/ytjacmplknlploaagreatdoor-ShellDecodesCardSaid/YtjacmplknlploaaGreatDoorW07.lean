/- A statement of the small language stands for an operation. Regions that do not draw. Regions that draw: what their evaluation shows. Objects that are not yet in the memory; orders. -/
import Derived.Test.YtjacmplknlploaaGreatDoorW06
import Derived.Orders
import Derived.OrdersIn
import Derived.RangeFuncLeaves
set_option linter.all false
namespace Go.Am

def Post (P : Program) (ng : Nat) (G : Gh) (v : AV) (s' : St) (u : Value) (w' : World) : Prop := ∃ H own', RepV H v u ∧ Rel P ng s' w' H own' ∧ G.le H

def Ret (R : Value → World → Prop) : Ending → World → Prop
  | .returned u, w => R u w
  | _, _ => False

/-- What a call of a function does. -/
def Does (P : Program) (f : FuncId) (args : Array Value) (w : World) (R : Value → World → Prop) : Prop :=
  (∃ u w', (callFunc f args).run P w = .ok (.value u) w' ∧ R u w') ∨
  (∃ g args' w1, (callFunc f args).run P w = .ok (.enter g args') w1 ∧ Calls P g args' w1 (Ret R))

/-- All functions, in a round of a loop or not. -/
def Fw (r : Option Nat) : Fence := { fn := fun _ => True, depth := none, alive := false, round := r }

theorem fw_room (r : Option Nat) (n : Nat) : (Fw r).room n := fun _ h => by cases h
theorem fw_fenced (P : Program) (r : Option Nat) (m : Machine) : m.fenced P (Fw r) := fenced_wide P m

theorem calls_fw {P : Program} {r : Option Nat} {n : Nat} {f : FuncId} {args : Array Value} {w : World} {R : Ending → World → Prop} (h : Calls P f args w R) : CallsIn (Fw r) n P f args w R := by
  have := (callsIn_wide (n := n)).2 h
  exact ⟨trivial, fun cs _ => this.2 cs (room_wide _)⟩

theorem calls_of_fw {P : Program} {r : Option Nat} {n : Nat} {f : FuncId} {args : Array Value} {w : World} {R : Ending → World → Prop} (h : CallsIn (Fw r) n P f args w R) : Calls P f args w R :=
  (callsIn_wide (n := n)).1 ⟨trivial, fun cs _ => h.2 cs (fw_room _ _)⟩

/-- The evaluator's calls are right; so are its rounds. -/
structure CallsR (P : Program) (ng : Nat) (E : Env) (rec : Rec) : Prop where
  call : ∀ (f : Nat) (args : List AV) (s : St) (v : AV) (s' : St) (G : Gh) (own : Own) (w : World) (us : List Value), evCall E rec f args s = some (v, s') → Rel P ng s w G own → RepL G args us →
    Does P f us.toArray w (Post P ng G v s')
  enter : ∀ (f : Nat) (args : List AV) (s : St) (v : AV) (s' : St) (G : Gh) (own : Own) (w : World) (us : List Value), evCallF E rec f args s = some (v, s') → Rel P ng s w G own → RepL G args us →
    (callFunc f us.toArray).run P w = .ok (.enter f us.toArray) w ∧ Calls P f us.toArray w (Ret (Post P ng G v s'))
  yld : ∀ (r : Option Nat) (id l : Nat) (args : List AV) (s : St) (v : AV) (s' : St) (G : Gh) (own : Own) (w : World) (us : List Value), evYield rec id args s = some (v, s') → Rel P ng s w G own → RepL G args us → G.loc id = some (l, 0) →
    ∃ f tmps assign body, (Instr.yield l us.toArray).run P w = .ok (.round l f tmps assign body) w ∧ RoundIn (Fw r) 0 P l f tmps assign body w (Ret (Post P ng G v s'))

section
variable {P : Program} {ng : Nat} {E : Env} {rec : Rec} {G : Gh} {own : Own} {fr : List AV} {a : Act} {w : World} {s s' : St} {v : AV} {ops : Array Oper} {Q : Exit → Act → World → Prop}

theorem wanted_rep {fs : List AV} (hf : RepF G fs a) {o : Oper} {g : Option (Nat × Bool)} (hl : lowG ops o = some g) : Region.wanted o (yielded ops a.tmps) = wanted fs g := by
  simp only [lowG] at hl
  cases hg : o.guard with
  | none => simp only [hg] at hl; cases hl; simp [Region.wanted, hg, wanted]
  | some jb =>
    obtain ⟨j, b⟩ := jb
    simp only [hg] at hl
    cases hd : (ops[j]?).bind (·.dst) with
    | none => simp [hd] at hl
    | some t =>
      simp only [hd, Option.some.injEq] at hl
      subst hl
      simp only [Region.wanted, hg, wanted, yielded, hd, Option.bind_some]
      have hlen : fs.length = a.tmps.size := by have := hf.1.1; simpa using this
      by_cases ht : t < fs.length
      · have ht' : t < a.tmps.size := by rw [← hlen]; exact ht
        have h1 : a.tmps[t]? = some a.tmps[t] := by simp
        have h2 : fs.getD t .undef = fs[t] := by simp [List.getD_eq_getElem?_getD, ht]
        have r : RepV G fs[t] a.tmps[t] := hf.1.2 t _ _ (by simp [ht]) (by simp)
        rw [h1, h2]
        generalize fs[t] = A at r
        generalize a.tmps[t] = x at r
        cases r <;> simp
      · have h1 : a.tmps[t]? = none := Array.getElem?_eq_none (by rw [← hlen]; exact Nat.le_of_not_lt ht)
        have h2 : fs.getD t .undef = .undef := by simp [List.getD_eq_getElem?_getD, ht]
        rw [h1, h2]; simp

theorem put_rep (hf : RepF G fr a) {H : Gh} (hle : G.le0 H) {u : Value} (r : RepV H v u) (d : Option Nat) : RepF H (setDst fr d v) (a.put d u) := by
  cases d with
  | none => exact ⟨hf.1.mono0 hle, hf.2.trans hle.dl.symm⟩
  | some t => exact ⟨by simpa [Act.put, setDst] using (hf.1.mono0 hle).set r t, hf.2.trans hle.dl.symm⟩

/-- One operation. -/
abbrev wpO (r : Option Nat) (P : Program) (ops : Array Oper) (Q : Exit → Act → World → Prop) (i : Nat) (K : Act → World → Prop) (a : Act) (w : World) : Prop := wpOpIn (Fw r) 0 P ops Q i K a w

theorem wpO_value {r : Option Nat} {o : Oper} {i : Nat} {K : Act → World → Prop} (ho : ops[i]? = some o) (hw : Region.wanted o (yielded ops a.tmps) = true) (hnd : ∀ c, o.op ≠ .defer c) (h : OpOk P ng G a w o v s')
    (hK : ∀ u w', Post P ng G v s' u w' → K (a.put o.dst u) w') : wpO r P ops Q i K a w := by
  obtain ⟨u, w', H, own', h1, h2, h3, h4⟩ := h
  simp only [wpO, wpOpIn, ho, hw, if_true, Oper.wpIn, Oper.semAt_eq _ _ _ hnd]
  refine ⟨fun _ _ => trivial, ?_⟩
  rcases h1 with h1 | ⟨h1, rfl⟩
  · simp only [h1, Oper.uponIn]; exact hK _ _ ⟨H, own', h2, h3, h4⟩
  · simp only [h1, Oper.uponIn]; exact hK _ _ ⟨H, own', h2, h3, h4⟩

theorem wpO_skip {r : Option Nat} {o : Oper} {i : Nat} {K : Act → World → Prop} (ho : ops[i]? = some o) (hw : Region.wanted o (yielded ops a.tmps) = false) (hR : Rel P ng s w G own)
    (hK : ∀ u w', Post P ng G .undef s u w' → K (a.put o.dst u) w') : wpO r P ops Q i K a w := by
  simp only [wpO, wpOpIn, ho, hw, Bool.false_eq_true, if_false]
  exact ⟨fun _ _ => trivial, hK _ _ ⟨G, own, undef_rep G, hR, Gh.le.refl G⟩⟩

theorem st_sound {r : Option Nat} {fl : Nat → Nat} {o : Oper} {st : IStmt} {i : Nat} {K : Act → World → Prop} (hE : CallsR P ng E rec) (hl : lowS P ng fl ops o = some st) (ho : ops[i]? = some o) (hR : Rel P ng s w G own) (hf : RepF G fr a)
    (he : evSt E rec fr s st = some (v, s')) (hK : ∀ u w', Post P ng G v s' u w' → K (a.put o.dst u) w') : wpO r P ops Q i K a w := by
  simp only [lowS] at hl
  cases hg : lowG ops o with
  | none => simp [hg] at hl
  | some g =>
    simp only [hg] at hl
    have hw := wanted_rep hf hg
    split at hl
    · rename_i f args _ hop
      have hnd : ∀ c, o.op ≠ .defer c := by intro c e; rw [hop] at e; cases e
      split at hl
      · rename_i y ys hy hys
        cases hl
        simp only [evSt] at he
        split at he
        · rename_i hwa
          rw [hwa] at hw
          have rf := lowX_rep hf hy hR.glob
          split at he
          · rename_i f' first captured hfn
            rw [hfn] at rf
            generalize hav : a.eval f = fv at rf
            cases rf with
            | fn _ _ _ us vs h1 h2 r1 r2 =>
              have ra : RepL G (first ++ (ys.map (Opd.ev fr) ++ captured)) (us.toList ++ (args.toList.map a.eval ++ vs.toList)) :=
                RepL.append ⟨by simpa using h1, fun i a v x y => r1 i a v x (by simpa using y)⟩ (RepL.append (lowXs_rep hf hR.glob hys) ⟨by simpa using h2, fun i a v x y => r2 i a v x (by simpa using y)⟩)
              have hex : execOp a.eval o = callFunc f' (us.toList ++ (args.toList.map a.eval ++ vs.toList)).toArray := by
                have e1 : (us.toList ++ (args.toList.map a.eval ++ vs.toList)).toArray = us ++ args.map a.eval ++ vs := by apply Array.ext'; simp
                rw [e1]
                simp only [execOp, hop, resolve, hav, Deferred.ofValue, pure_bind, invoke]
              have hd := hE.call _ _ _ _ _ _ _ _ _ he hR ra
              simp only [wpO, wpOpIn, ho, hw, if_true, Oper.wpIn, Oper.semAt_eq _ _ _ hnd, hex]
              refine ⟨fun _ _ => trivial, ?_⟩
              rcases hd with ⟨u, w', h1, h2⟩ | ⟨g', args', w1, h1, h2⟩
              · rw [h1]; simp only [Oper.uponIn]; exact hK _ _ h2
              · rw [h1]; simp only [Oper.uponIn]
                refine ⟨nofun, ?_⟩
                refine calls_fw (h2.mono fun e w' he => ?_)
                cases e with
                | returned u => exact hK _ _ he
                | panicked c => exact he.elim
                | outgrown => exact he.elim
          · rename_i id hfn
            rw [hfn] at rf
            generalize hav : a.eval f = fv at rf
            cases rf with
            | yld _ l hloc =>
              have ra : RepL G (ys.map (Opd.ev fr)) (args.toList.map a.eval) := lowXs_rep hf hR.glob hys
              have hex : execOp a.eval o = Instr.yield l (args.toList.map a.eval).toArray := by
                have e1 : (args.toList.map a.eval).toArray = args.map a.eval := by apply Array.ext'; simp
                rw [e1]
                simp only [execOp, hop, resolve, hav, Deferred.ofValue, pure_bind, invoke]
                simp
              obtain ⟨f', tmps, assign, body, h1, h2⟩ := hE.yld r _ _ _ _ _ _ _ _ _ _ he hR ra hloc
              simp only [wpO, wpOpIn, ho, hw, if_true, Oper.wpIn, Oper.semAt_eq _ _ _ hnd, hex]
              refine ⟨fun _ _ => trivial, ?_⟩
              rw [h1]; simp only [Oper.uponIn]
              refine ⟨nofun, ?_⟩
              refine h2.mono fun e w' he => ?_
              cases e with
              | returned u => exact hK _ _ he
              | panicked c => exact he.elim
              | outgrown => exact he.elim
          · cases he
        · rename_i hwa
          cases he
          exact wpO_skip ho (by rw [hw]; simpa using hwa) hR hK
      · cases hl
        simp only [evSt] at he
        split at he
        · simp [evOp] at he
        · rename_i hwa
          cases he
          exact wpO_skip ho (by rw [hw]; simpa using hwa) hR hK
    · cases hl
      simp only [evSt] at he
      by_cases hwa : wanted fr g = true
      · rw [if_pos hwa] at he
        rw [hwa] at hw
        have key : ∀ n, evOp fr s (lowOpB P ng n o.op) = some (v, s') → wpO r P ops Q i K a w := by
          intro n he
          cases hq : lowOp P ng n o.op with
          | none =>
            simp only [lowOpB, hq, Option.getD_none] at he
            simp [evOp] at he
          | some io =>
            simp only [lowOpB, hq, Option.getD_some] at he
            exact wpO_value ho hw (by intro c e; rw [e] at hq; simp [lowOp] at hq) (op_sound hR hf hq he) hK
        exact key _ he
      · rw [if_neg hwa] at he
        cases he
        exact wpO_skip ho (by rw [hw]; simpa using hwa) hR hK

theorem lowS_dst {fl : Nat → Nat} {o : Oper} {st : IStmt} (hl : lowS P ng fl ops o = some st) : st.dst = o.dst := by
  simp only [lowS] at hl
  split at hl
  · cases hl
  · split at hl
    · split at hl <;> cases hl <;> rfl
    · cases hl; rfl

end
end Go.Am

namespace Go.Am

/-- What holds behind a piece of code. -/
def After (P : Program) (ng : Nat) (G : Gh) (fr' : List AV) (s' : St) (a' : Act) (w' : World) : Prop := ∃ H own', RepF H fr' a' ∧ Rel P ng s' w' H own' ∧ G.le H

section
variable {P : Program} {ng : Nat} {E : Env} {rec : Rec} {G : Gh} {own : Own} {fr fr' : List AV} {a : Act} {w : World} {s s' : St} {v : AV} {ops : Array Oper} {Q : Exit → Act → World → Prop}

theorem evOps_cons {st : IStmt} {r : List IStmt} (h : st.plain = true) : evOps E rec (st :: r) fr s = match evSt E rec fr s st with
    | some (v, s') => evOps E rec r (setDst fr st.dst v) s'
    | none => none := by
  cases st <;> simp [IStmt.plain] at h <;> rfl

theorem lowS_plain {fl : Nat → Nat} {o : Oper} {st : IStmt} (hl : lowS P ng fl ops o = some st) : st.plain = true := by
  simp only [lowS] at hl
  split at hl
  · cases hl
  · split at hl
    · split at hl <;> cases hl <;> rfl
    · cases hl; rfl

theorem lowL_get {fl : Nat → Nat} : ∀ {l : List Oper} {ss : List IStmt}, lowL P ng fl ops l = some ss → ss.length = l.length ∧ ∀ (i : Nat) o, l[i]? = some o → ∃ st, ss[i]? = some st ∧ lowS P ng fl ops o = some st
  | [], ss, h => by simp [lowL] at h; subst h; exact ⟨rfl, by simp⟩
  | o :: r, ss, h => by
    simp only [lowL] at h
    split at h
    · rename_i st l h1 h2
      cases h
      obtain ⟨q1, q2⟩ := lowL_get h2
      refine ⟨by simp [q1], fun i o' ho => ?_⟩
      cases i with
      | zero => simp at ho; subst ho; exact ⟨st, rfl, h1⟩
      | succ i => exact q2 i o' (by simpa using ho)
    · cases h

theorem ops_sound {r : Option Nat} {fl : Nat → Nat} (hE : CallsR P ng E rec) (rest : List Nat) : ∀ (l : List Oper) (k : Nat) (ss : List IStmt) (fr : List AV) (s : St) (a : Act) (w : World) (G : Gh) (own : Own), (∀ (i : Nat) o, l[i]? = some o → ops[k + i]? = some o) → lowL P ng fl ops l = some ss →
    Rel P ng s w G own → RepF G fr a → evOps E rec ss fr s = some (fr', s') → (∀ a' w', After P ng G fr' s' a' w' → wpOpsIn (Fw r) 0 P ops Q rest a' w') → wpOpsIn (Fw r) 0 P ops Q (List.range' k l.length ++ rest) a w
  | [], k, ss, fr, s, a, w, G, own, hd, hl, hR, hf, he, hQ => by
    simp [lowL] at hl; subst hl
    simp only [evOps, Option.some.injEq, Prod.mk.injEq] at he
    obtain ⟨rfl, rfl⟩ := he
    simp only [List.length_nil, List.range'_zero, List.nil_append]
    exact hQ _ _ ⟨G, own, hf, hR, Gh.le.refl G⟩
  | o :: rs, k, ss, fr, s, a, w, G, own, hd, hl, hR, hf, he, hQ => by
    simp only [lowL] at hl
    split at hl
    · rename_i st l h1 h2
      cases hl
      rw [evOps_cons (lowS_plain h1)] at he
      split at he
      · rename_i v s1 hev
        have ho : ops[k]? = some o := by simpa using hd 0 o rfl
        have hd' : ∀ (i : Nat) o, rs[i]? = some o → ops[k + 1 + i]? = some o := fun i o h => by
          have := hd (i + 1) o (by simpa using h)
          rw [show k + 1 + i = k + (i + 1) by omega]; exact this
        simp only [List.length_cons, List.range'_succ, List.cons_append]
        rw [wpOpsIn_cons]
        refine st_sound hE h1 ho hR hf hev (fun u w' hp => ?_)
        obtain ⟨H, own', q1, q2, q3⟩ := hp
        refine ops_sound hE rest rs (k + 1) l _ s1 _ w' H own' hd' h2 q2 ?_ he (fun a' w' hA => ?_)
        · have := put_rep hf q3.weak q1 o.dst
          rw [← lowS_dst h1] at this ⊢
          exact this
        · obtain ⟨H2, own2, p1, p2, p3⟩ := hA
          exact hQ _ _ ⟨H2, own2, p1, p2, q3.trans p3⟩
      · cases he
    · cases hl

theorem reg_sound {r : Option Nat} {fl : Nat → Nat} {id : Nat} {ss : List IStmt} (hE : CallsR P ng E rec) (hl : lowReg P ng fl ops false = some ss) (hR : Rel P ng s w G own) (hf : RepF G fr a) (he : evOps E rec ss fr s = some (fr', s'))
    (hQ : ∀ a' w', After P ng G fr' s' a' w' → Q .normal a' w') : (Code.region id ops false).wpIn (Fw r) 0 P Q a w := by
  apply wpIn_region
  have hl' : lowL P ng fl ops ops.toList = some ss := by
    simp only [lowReg, Bool.false_eq_true, if_false] at hl
    split at hl
    · cases hl
    · rename_i h; rw [h]; exact hl
  have := ops_sound (Q := Q) (r := r) hE [] ops.toList 0 ss fr s a w G own (fun i o h => by simpa using h) hl' hR hf he (fun a' w' hA => by simp only [wpOpsIn]; exact hQ a' w' hA)
  rw [List.range_eq_range']
  simpa using this

end
end Go.Am

namespace Go.Am

section
variable {P : Program} {ng : Nat} {E : Env} {rec : Rec} {G : Gh} {own : Own} {fr fr' fr0 frF : List AV} {a : Act} {w : World} {s s' sF : St} {v : AV} {ss : List IStmt} {bs : List Nat} {val : Nat → AV}

theorem evSt_congr {st : IStmt} (h : Agree fr fr' st.looks) : evSt E rec fr s st = evSt E rec fr' s st := by
  have hw : ∀ {g : Option (Nat × Bool)}, Agree fr fr' (gTmps g) → wanted fr g = wanted fr' g := by
    intro g hg
    cases g with
    | none => rfl
    | some p => obtain ⟨t, b⟩ := p; simp only [wanted, hg t (by simp [gTmps])]
  cases st with
  | op d g o => simp only [evSt, hw (g := g) h.left, evOp_congr (io := o) h.right]
  | call d g c as => simp only [evSt, hw (g := g) h.left, Agree.opd (x := c) h.right.left, agree_opds (l := as) h.right.right]
  | chk => rfl
  | zero => rfl

theorem evSt_quiet {st : IStmt} (hq : st.quiet = true) (h : evSt E rec fr s st = some (v, s')) : s' = s := by
  cases st <;> simp only [IStmt.quiet, Bool.false_eq_true] at hq
  simp only [evSt] at h
  split at h
  · exact evOp_quiet hq h
  · cases h; rfl

theorem evSt_pure {st : IStmt} (hq : st.pure = true) (h : evSt E rec fr s st = some (v, s')) (t : St) : evSt E rec fr t st = some (v, t) := by
  cases st <;> simp only [IStmt.pure, Bool.false_eq_true] at hq
  simp only [evSt] at h ⊢
  split at h
  · rename_i hw; rw [if_pos hw]; exact (evOp_pure hq h t).2
  · rename_i hw; cases h; rw [if_neg hw]

theorem writer_some {t j : Nat} (h : writer ss t = some j) : (stAt ss j).dst = some t ∧ j < ss.length := by
  have h1 := List.find?_some h
  have h2 := List.mem_of_find?_eq_some h
  exact ⟨by simpa using h1, by simpa using h2⟩

/-- The frame in which just some operations have been evaluated. -/
def Fr (ss : List IStmt) (fr0 : List AV) (val : Nat → AV) (D : Nat → Bool) (fr : List AV) : Prop :=
  fr.length = fr0.length ∧ ∀ t, fr.getD t .undef = match writer ss t with
    | some j => if D j = true ∧ t < fr0.length then val j else fr0.getD t .undef
    | none => fr0.getD t .undef

theorem Fr.start {D : Nat → Bool} (h : ∀ j, j < ss.length → D j = false) : Fr ss fr0 val D fr0 := by
  refine ⟨rfl, fun t => ?_⟩
  cases hw : writer ss t with
  | none => rfl
  | some j => simp [h j (writer_some hw).2]

theorem Fr.congr {D D' : Nat → Bool} {val' : Nat → AV} (h : Fr ss fr0 val D fr) (hd : ∀ j, j < ss.length → D' j = D j) (hv : ∀ j, j < ss.length → D j = true → val' j = val j) : Fr ss fr0 val' D' fr := by
  refine ⟨h.1, fun t => ?_⟩
  rw [h.2 t]
  cases hw : writer ss t with
  | none => rfl
  | some j =>
    have hj := (writer_some hw).2
    simp only [hd j hj]
    split
    · rename_i hc; exact (hv j hj hc.1).symm
    · rfl

theorem getD_set {l : List AV} {i t : Nat} {x d : AV} : (l.set i x).getD t d = if i = t ∧ t < l.length then x else l.getD t d := by
  simp only [List.getD_eq_getElem?_getD, List.getElem?_set]
  by_cases h : i = t
  · subst h
    by_cases h2 : i < l.length
    · simp [h2]
    · simp [h2]
  · simp [h]

/-- One more operation is evaluated. -/
theorem Fr.put {D : Nat → Bool} {i : Nat} {v : AV} (h : Fr ss fr0 val D fr) (hu : ∀ t, (stAt ss i).dst = some t → writer ss t = some i) (hv : ∀ d, (stAt ss i).dst = some d → d < fr0.length → v = val i) {D' : Nat → Bool}
    (hd : ∀ j, D' j = (D j || j == i)) : Fr ss fr0 val D' (setDst fr (stAt ss i).dst v) := by
  have hne : ∀ t j, writer ss t = some j → (stAt ss i).dst ≠ some t → D' j = D j := by
    intro t j hw hn
    have : j ≠ i := by rintro rfl; exact hn (writer_some hw).1
    rw [hd]; simp [this]
  cases hdst : (stAt ss i).dst with
  | none =>
    refine ⟨h.1, fun t => ?_⟩
    simp only [setDst, h.2 t]
    cases hw : writer ss t with
    | none => rfl
    | some j => simp only [hne t j hw (by rw [hdst]; simp)]
  | some d =>
    refine ⟨by simp [setDst, h.1], fun t => ?_⟩
    simp only [setDst, getD_set]
    by_cases hdt : d = t
    · subst hdt
      rw [hu d hdst]
      simp only [hd, true_and, h.1]
      by_cases hl : d < fr0.length
      · rw [if_pos hl, if_pos ⟨by simp, hl⟩]; exact hv d hdst hl
      · rw [if_neg hl, if_neg (fun hc => hl hc.2)]
        have e1 : fr.getD d .undef = .undef := by simp [List.getD_eq_getElem?_getD, h.1, hl]
        have e2 : fr0.getD d .undef = .undef := by simp [List.getD_eq_getElem?_getD, hl]
        rw [e1, e2]
    · rw [if_neg (fun hc => hdt hc.1), h.2 t]
      cases hw : writer ss t with
      | none => rfl
      | some j => simp only [hne t j hw (by rw [hdst]; simpa using hdt)]

/-- What an operation looks at is there, and nothing that comes later. -/
def ViewD (bs : List Nat) (ss : List IStmt) (D : Nat → Bool) (i : Nat) : Prop := ∀ t ∈ (stAt ss i).looks, ∀ j, writer ss t = some j → D j = isBefore bs j i

theorem ViewD.agree {D D' : Nat → Bool} {i : Nat} {fr fr' : List AV} (h : ViewD bs ss D i) (h' : ViewD bs ss D' i) (f : Fr ss fr0 val D fr) (f' : Fr ss fr0 val D' fr') : Agree fr fr' (stAt ss i).looks := by
  intro t ht
  rw [f.2 t, f'.2 t]
  cases hw : writer ss t with
  | none => rfl
  | some j => simp only [h t ht j hw, h' t ht j hw]

theorem viewOk_view {done : List Nat} {i : Nat} (h : viewOk bs ss done i = true) : ViewD bs ss (fun j => done.contains j) i := by
  intro t ht j hw
  have := List.all_eq_true.1 h t ht
  simp only [hw] at this
  split at this
  · rename_i hb; rw [hb]; exact this
  · rename_i hb; simp only [Bool.not_eq_true'] at this; exact this.trans (by simpa using hb : isBefore bs j i = false).symm

/-- What is known of an operation at a stage. -/
def Fact (E : Env) (rec : Rec) (bs : List Nat) (ss : List IStmt) (fr0 : List AV) (val : Nat → AV) (S : Nat → St) (i k : Nat) : Prop :=
  if (stAt ss i).fresh then
    ∃ d ty cs, stAt ss i = .op (some d) none (.alloc ty cs) ∧ (d < fr0.length → zeroAt (S k) (val i) ty cs = true) ∧ d < fr0.length
  else if (stAt ss i).quiet then
    ∀ fr D, Fr ss fr0 val D fr → ViewD bs ss D i → ∃ v, evSt E rec fr (S k) (stAt ss i) = some (v, S k) ∧ ∀ d, (stAt ss i).dst = some d → d < fr0.length → v = val i
  else
    (louds ss)[k]? = some i ∧ ∀ fr D, Fr ss fr0 val D fr → ViewD bs ss D i → ∃ v, evSt E rec fr (S k) (stAt ss i) = some (v, S (k + 1)) ∧ ∀ d, (stAt ss i).dst = some d → d < fr0.length → v = val i

theorem fresh_inv {st : IStmt} (h : st.fresh = true) : ∃ d ty cs, st = .op (some d) none (.alloc ty cs) := by
  unfold IStmt.fresh at h
  split at h
  · exact ⟨_, _, _, rfl⟩
  · cases h

theorem walk (hu : ∀ i, i < ss.length → ∀ t, (stAt ss i).dst = some t → writer ss t = some i) : ∀ (pl : List LAct) (done : List Nat) (k : Nat) (fr : List AV) (s : St) (val0 : Nat → AV), planOk bs ss pl done k = true →
    (∀ i ∈ done, i < ss.length) → Fr ss fr0 val0 (fun j => done.contains j) fr → evOps E rec (pl.map (planned ss)) fr s = some (frF, sF) →
    ∃ (val : Nat → AV) (S : Nat → St), (∀ i ∈ done, val i = val0 i) ∧ S k = s ∧ k ≤ (louds ss).length ∧ S (louds ss).length = sF ∧ Fr ss fr0 val (fun _ => true) frF ∧ ∀ i k', (i, k') ∈ seenAt ss pl k → Fact E rec bs ss fr0 val S i k'
  | [], done, k, fr, s, val0, hp, hdn, hf, he => by
    simp only [planOk, Bool.and_eq_true, beq_iff_eq] at hp
    obtain ⟨hk, hall⟩ := hp
    simp only [List.map_nil, evOps, Option.some.injEq, Prod.mk.injEq] at he
    obtain ⟨rfl, rfl⟩ := he
    refine ⟨val0, fun _ => s, fun _ _ => rfl, rfl, by omega, rfl, hf.congr (fun j hj => ?_) (fun _ _ _ => rfl), fun i k' h => by simp [seenAt] at h⟩
    exact (List.all_eq_true.1 hall j (by simpa using hj)).symm
  | .run i :: r, done, k, fr, s, val0, hp, hdn, hf, he => by
    simp only [planOk, Bool.and_eq_true, decide_eq_true_eq, Bool.not_eq_true'] at hp
    obtain ⟨⟨⟨⟨⟨hi, hnd⟩, hview⟩, hfr⟩, hpl⟩, hrest⟩ := hp
    simp only [List.map_cons, planned] at he
    rw [evOps_cons hpl] at he
    split at he
    · rename_i v s1 hev
      have hview := viewOk_view hview
      let val1 : Nat → AV := fun j => if j = i then v else val0 j
      have hnm : i ∉ done := by intro h; rw [List.contains_iff_mem.2 h] at hnd; cases hnd
      have hf0 : Fr ss fr0 val1 (fun j => done.contains j) fr := hf.congr (fun _ _ => rfl) (fun j _ hj => by
        have : j ≠ i := by rintro rfl; exact hnm (List.contains_iff_mem.1 hj)
        simp [val1, this])
      have hf1 : Fr ss fr0 val1 (fun j => (i :: done).contains j) (setDst fr (stAt ss i).dst v) := hf0.put (hu i hi) (fun d _ _ => by simp [val1]) (fun j => by
        simp only [List.contains_cons]; rw [Bool.or_comm])
      have hdn1 : ∀ j ∈ i :: done, j < ss.length := by
        intro j hj; rcases List.mem_cons.1 hj with rfl | hj; exact hi; exact hdn j hj
      -- the operation at any frame that agrees
      have hval : ∀ val : Nat → AV, (∀ j ∈ i :: done, val j = val1 j) → ∀ fr' D, Fr ss fr0 val D fr' → ViewD bs ss D i → ∃ v', evSt E rec fr' s (stAt ss i) = some (v', s1) ∧ ∀ d, (stAt ss i).dst = some d → d < fr0.length → v' = val i := by
        intro val hval fr' D hf' hv'
        have hfv : Fr ss fr0 val (fun j => done.contains j) fr := hf0.congr (fun _ _ => rfl) (fun j _ hj => hval j (List.mem_cons_of_mem _ (List.contains_iff_mem.1 hj)))
        have hag := hv'.agree hview hf' hfv
        refine ⟨v, by rw [evSt_congr hag]; exact hev, fun d _ _ => ?_⟩
        rw [hval i (by simp)]; simp [val1]
      have hold : ∀ val : Nat → AV, (∀ j ∈ i :: done, val j = val1 j) → ∀ j ∈ done, val j = val0 j := by
        intro val hval j hj
        rw [hval j (List.mem_cons_of_mem _ hj)]
        have : j ≠ i := by rintro rfl; exact hnm hj
        simp [val1, this]
      split at hrest
      · rename_i hq
        have hs := evSt_quiet hq hev
        subst hs
        obtain ⟨val, S, h1, h2, h3, h4, h5, h6⟩ := walk hu r (i :: done) k _ _ val1 hrest hdn1 hf1 he
        refine ⟨val, S, hold val h1, h2, h3, h4, h5, fun j k' hj => ?_⟩
        have hl : (stAt ss i).loud = false := by simp [IStmt.loud, hq]
        simp only [seenAt, hl, Bool.false_eq_true, if_false] at hj
        rcases List.mem_cons.1 hj with hj | hj
        · cases hj
          unfold Fact
          rw [if_neg (by simp [hfr]), if_pos hq, h2]
          exact hval val h1
        · exact h6 j k' hj
      · rename_i hq
        simp only [Bool.and_eq_true, beq_iff_eq] at hrest
        obtain ⟨hlk, hrest⟩ := hrest
        obtain ⟨val, S, h1, h2, h3, h4, h5, h6⟩ := walk hu r (i :: done) (k + 1) _ _ val1 hrest hdn1 hf1 he
        have hl : (stAt ss i).loud = true := by simp [IStmt.loud, hq, hfr]
        have hge : ∀ (pl : List LAct) (k0 : Nat) (j k' : Nat), (j, k') ∈ seenAt ss pl k0 → k0 ≤ k' := by
          intro pl
          induction pl with
          | nil => intro k0 j k' h; simp [seenAt] at h
          | cons x r ih =>
            intro k0 j k' h
            cases x with
            | run i =>
              simp only [seenAt] at h
              rcases List.mem_cons.1 h with h | h
              · cases h; exact Nat.le_refl _
              · have := ih _ j k' h; split at this <;> omega
            | chk i =>
              simp only [seenAt] at h
              rcases List.mem_cons.1 h with h | h
              · cases h; exact Nat.le_refl _
              · exact ih _ j k' h
            | zero i =>
              simp only [seenAt] at h
              rcases List.mem_cons.1 h with h | h
              · cases h; exact Nat.le_refl _
              · exact ih _ j k' h
        refine ⟨val, fun j => if j ≤ k then s else S j, hold val h1, by simp, by omega, ?_, h5, fun j k' hj => ?_⟩
        · have : ¬ (louds ss).length ≤ k := by omega
          simp only [this, if_false]; exact h4
        · simp only [seenAt, hl, if_true] at hj
          rcases List.mem_cons.1 hj with hj | hj
          · cases hj
            unfold Fact
            rw [if_neg (by simp [hfr]), if_neg hq]
            refine ⟨hlk, ?_⟩
            have e1 : ¬ k + 1 ≤ k := by omega
            simp only [Nat.le_refl, if_true, e1, if_false, h2]
            exact hval val h1
          · have hg := hge r (k + 1) j k' hj
            have e1 : ¬ k' ≤ k := by omega
            have e2 : ¬ k' + 1 ≤ k := by omega
            have := h6 j k' hj
            unfold Fact at this ⊢
            simpa only [e1, e2, if_false] using this
    · cases he
  | .chk i :: r, done, k, fr, s, val0, hp, hdn, hf, he => by
    simp only [planOk, Bool.and_eq_true] at hp
    obtain ⟨⟨⟨hd, hq⟩, hview⟩, hrest⟩ := hp
    have hview := viewOk_view hview
    have hdm := List.contains_iff_mem.1 hd
    have key : ∃ v, evSt E rec fr s (stAt ss i) = some (v, s) ∧ (∀ d, (stAt ss i).dst = some d → v = fr.getD d .undef) ∧ evOps E rec (r.map (planned ss)) fr s = some (frF, sF) := by
      simp only [List.map_cons, planned] at he
      cases hst : stAt ss i with
      | op d g o =>
        rw [hst] at hq
        cases d with
        | none =>
          simp only [hst] at he
          rw [evOps_cons rfl] at he
          split at he
          · rename_i v s1 hev
            have := evSt_quiet hq hev
            subst this
            exact ⟨v, hev, by simp [IStmt.dst], he⟩
          · cases he
        | some d =>
          simp only [hst, evOps] at he
          split at he
          · rename_i v s1 hev
            have := evSt_quiet hq hev
            subst this
            split at he
            · rename_i heq
              exact ⟨v, hev, fun d' hd' => by cases hd'; exact AV.eqb_sound heq, he⟩
            · cases he
          · cases he
      | call => rw [hst] at hq; cases hq
      | chk => rw [hst] at hq; cases hq
      | zero => rw [hst] at hq; cases hq
    obtain ⟨v, k1, k2, k3⟩ := key
    obtain ⟨val, S, h1, h2, h3, h4, h5, h6⟩ := walk hu r done k fr s val0 hrest hdn hf k3
    refine ⟨val, S, h1, h2, h3, h4, h5, fun j k' hj => ?_⟩
    simp only [seenAt] at hj
    rcases List.mem_cons.1 hj with hj | hj
    · cases hj
      have hfr : (stAt ss i).fresh = false := by
        cases hx : (stAt ss i).fresh with
        | false => rfl
        | true => obtain ⟨d, ty, cs, e⟩ := fresh_inv hx; rw [e] at hq; cases hq
      unfold Fact
      rw [if_neg (by simp [hfr]), if_pos hq, h2]
      intro fr' D hf' hv'
      have hfv : Fr ss fr0 val (fun j => done.contains j) fr := hf.congr (fun _ _ => rfl) (fun j _ hj => h1 j (List.contains_iff_mem.1 hj))
      have hag := hv'.agree hview hf' hfv
      refine ⟨v, by rw [evSt_congr hag]; exact k1, fun d hd' hl => ?_⟩
      rw [k2 d hd', hfv.2 d, hu i (hdn i hdm) d hd']
      simp [hdm, hl]
    · exact h6 j k' hj
  | .zero i :: r, done, k, fr, s, val0, hp, hdn, hf, he => by
    simp only [planOk, Bool.and_eq_true] at hp
    obtain ⟨⟨hd, hfr⟩, hrest⟩ := hp
    have hdm := List.contains_iff_mem.1 hd
    obtain ⟨d, ty, cs, hst⟩ := fresh_inv hfr
    simp only [List.map_cons, planned, hst, evOps] at he
    split at he
    · rename_i hz
      obtain ⟨val, S, h1, h2, h3, h4, h5, h6⟩ := walk hu r done k fr s val0 hrest hdn hf he
      refine ⟨val, S, h1, h2, h3, h4, h5, fun j k' hj => ?_⟩
      simp only [seenAt] at hj
      rcases List.mem_cons.1 hj with hj | hj
      · cases hj
        unfold Fact
        rw [if_pos hfr]
        have hlt : d < fr0.length := by
          by_cases hl : d < fr.length
          · rw [← hf.1]; exact hl
          · have : fr.getD d .undef = .undef := by simp [List.getD_eq_getElem?_getD, hl]
            rw [this] at hz; simp [zeroAt] at hz
        refine ⟨d, ty, cs, hst, fun _ => ?_, hlt⟩
        have hdd : (stAt ss i).dst = some d := by rw [hst]; rfl
        have hfv : Fr ss fr0 val (fun j => done.contains j) fr := hf.congr (fun _ _ => rfl) (fun j _ hj => h1 j (List.contains_iff_mem.1 hj))
        have := hfv.2 d
        rw [hu i (hdn i hdm) d hdd] at this
        simp [hdm, hlt] at this
        rw [h2, ← this]
        simpa [List.getD_eq_getElem?_getD] using hz
      · exact h6 j k' hj
    · cases he

end
end Go.Am

namespace Go.Am

section
variable {P : Program} {ng : Nat} {E : Env} {rec : Rec} {G : Gh} {own : Own} {fr fr' fr0 frF : List AV} {a : Act} {w w' : World} {s s' sF : St} {v : AV} {ss : List IStmt} {bs : List Nat} {val : Nat → AV}

def Gh.resv (G : Gh) (r : Nat) : Gh := { G with unb := fun i => if i = r then true else G.unb i }

theorem Gh.resv_le (G : Gh) (r : Nat) : G.le0 (G.resv r) := ⟨⟨fun _ _ h => h, fun _ _ _ h => h, fun _ _ h => h, rfl⟩, rfl⟩

theorem Ch.refl (w : World) (G : Gh) (own : Own) (id : Nat) : Ch w w G own id := ⟨fun _ c _ f hb => ⟨c, hb, rfl, fun _ _ => rfl⟩, fun _ _ hb _ _ => hb⟩

theorem Rel.resv (h : Rel P ng s w G own) (o : Obj) : Rel P ng (s.add o) w (G.resv s.next) own := by
  constructor
  · intro id x hk hu
    simp only [St.add, look] at hk
    simp only [Gh.resv] at hu
    split at hu
    · cases hu
    · rename_i hne
      rw [if_neg (fun e => hne e.symm)] at hk
      exact (h.obj id x hk hu).keep (G.resv_le _).tole3 (Ch.refl w G own id) (fun _ _ h => h)
  · exact h.imm
  · exact h.bsz
  · exact h.disj
  · exact h.ord
  · exact h.frz
  · intro id p hp; have := h.locf id p hp; simp only [St.add]; exact ⟨by omega, this.2⟩
  · exact h.ownf
  · have := h.two; simp only [St.add]; omega
  · exact h.suf
  · simp only [St.add, List.map_cons, List.nodup_cons]
    refine ⟨fun hm => ?_, h.nodup⟩
    obtain ⟨⟨k, x⟩, hx, hk⟩ := List.mem_map.1 hm
    have hl := look_of_mem h.nodup hx
    have hlt : k < s.next := h.key hl
    simp at hk; omega
  · exact h.glob
  · intro id hu
    simp only [Gh.resv] at hu ⊢
    simp only [St.add]
    split at hu
    · rename_i e; subst e
      refine ⟨by omega, ?_⟩
      cases hl : G.loc s.next with
      | none => rfl
      | some p => have := (h.locf _ _ hl).1; omega
    · have := h.unb id hu; exact ⟨by omega, this.2⟩
  · intro b j id hj
    have h1 := h.ownu b j id hj
    simp only [Gh.resv, St.add]
    refine ⟨by omega, ?_⟩
    rw [if_neg (by omega)]; exact h1.2
  · exact ⟨h.old.out, h.old.mem, h.old.own, h.old.lt⟩

/-- An object comes to be in the memory. -/
theorem Rel.born (h : Rel P ng s w G own) {r : Nat} {ty : Nat} {cs : List AV} {c : Array Value} (hu : G.unb r = true) (hk : look s.objs r = some (.cells ty cs)) (hr : RepL G cs c.toList) (h1 : ∀ a ∈ cs, a.one = true)
    (hw : w'.heap = w.heap.push (.cells c ty)) (ho : w'.os = w.os ∧ w'.output = w.output := by exact ⟨rfl, rfl⟩) :
    ∃ H own', H.loc r = some (w.heap.size, 0) ∧ Rel P ng s w' H own' ∧ G.le0 H ∧ ∀ i, H.unb i = if i = r then false else G.unb i := by
  have hnl : G.loc r = none := (h.unb r hu).2
  let H : Gh := { loc := fun i => if i = r then some (w.heap.size, 0) else G.loc i, imm := fun b j => if b = w.heap.size then none else G.imm b j, bsz := fun b => if b = w.heap.size then some c.size else G.bsz b,
                  unb := fun i => if i = r then false else G.unb i, dl := G.dl, w0 := G.w0 }
  have hle : G.le0 H := by
    refine ⟨⟨fun i p hi => ?_, fun b j v hv => ?_, fun b n hn => ?_, rfl⟩, rfl⟩
    · have : i ≠ r := by rintro rfl; rw [hnl] at hi; cases hi
      simpa [H, this] using hi
    · obtain ⟨c, ty, f, hb, _⟩ := h.imm b j v hv
      have : b ≠ w.heap.size := by rintro rfl; simp at hb
      simpa [H, this] using hv
    · obtain ⟨c, ty, f, hb, _⟩ := h.bsz b n hn
      have : b ≠ w.heap.size := by rintro rfl; simp at hb
      simpa [H, this] using hn
  refine ⟨H, own.push w.heap.size fun _ => some r, by simp [H], ?_, hle, fun i => rfl⟩
  constructor
  · intro id x hx hu'
    by_cases e : id = r
    · subst e
      rw [hk] at hx; cases hx
      exact ⟨w.heap.size, c, (0, 0), by simp [H], by rw [hw]; simp, hr.mono0 hle, h1, fun j => by simp [Own.push], by simp [H]⟩
    · have hu2 : G.unb id = false := by simpa [H, e] using hu'
      refine (h.obj id x hx hu2).keep hle.tole3 ⟨fun b c ty f hb => ⟨c, by rw [hw]; exact heap_push_old hb, rfl, fun _ _ => rfl⟩, fun b xs hb _ _ => by rw [hw]; exact heap_push_old hb⟩ (fun b j hj => ?_)
      have := h.ownf _ _ _ hj
      simp only [Own.push]; rw [if_neg (by omega)]; exact hj
  · intro b j v hv
    simp only [H] at hv
    split at hv
    · cases hv
    · obtain ⟨c, ty, f, hb, hc⟩ := h.imm b j v hv; exact ⟨c, ty, f, by rw [hw]; exact heap_push_old hb, hc⟩
  · intro b n hn
    simp only [H] at hn
    split at hn
    · rename_i e; subst e; cases hn; exact ⟨c, ty, (0, 0), by rw [hw]; simp, rfl⟩
    · obtain ⟨c, ty, f, hb, hc⟩ := h.bsz b n hn; exact ⟨c, ty, f, by rw [hw]; exact heap_push_old hb, hc⟩
  · intro b j id hj
    simp only [Own.push] at hj
    simp only [H]
    split at hj
    · rename_i e; rw [if_pos e]
    · rename_i e; rw [if_neg e]; exact h.disj b j id hj
  · intro b i j id v hi hj
    simp only [Own.push] at hj
    simp only [H] at hi
    split at hj
    · rename_i e; rw [if_pos e] at hi; cases hi
    · rename_i e; rw [if_neg e] at hi; exact h.ord b i j id v hi hj
  · intro b j id c' ty' f hj hb
    simp only [Own.push] at hj
    split at hj
    · rename_i e; subst e; rw [hw] at hb; simp at hb
      rw [← hb.2.2]; exact Nat.zero_le _
    · rename_i e
      rw [hw, Array.getElem?_push, if_neg e] at hb
      exact h.frz b j id c' ty' f hj hb
  · intro id p hp
    simp only [H] at hp
    split at hp
    · rename_i e; subst e; cases hp; exact ⟨(h.unb _ hu).1, by rw [hw]; simp⟩
    · have := h.locf id p hp; rw [hw]; simp; omega
  · intro b j id hj
    simp only [Own.push] at hj
    split at hj
    · rename_i e; subst e; rw [hw]; simp
    · have := h.ownf _ _ _ hj; rw [hw]; simp; omega
  · exact h.two
  · intro b i j id hi hij
    simp only [Own.push] at hi ⊢
    split at hi
    · rename_i e; rw [if_pos e]; exact hi
    · rename_i e; rw [if_neg e]; exact h.suf b i j id hi hij
  · exact h.nodup
  · exact fun g hg => hle.loc _ _ (h.glob g hg)
  · intro id hu'
    simp only [H] at hu' ⊢
    split at hu'
    · cases hu'
    · rename_i e; rw [if_neg e]; exact h.unb id hu'
  · intro b j id hj
    simp only [Own.push] at hj
    simp only [H]
    split at hj
    · cases hj; exact ⟨(h.unb _ hu).1, by simp⟩
    · have := h.ownu b j id hj
      refine ⟨this.1, ?_⟩
      split
      · rfl
      · exact this.2
  · refine h.old.push hw ho hle.w0 (fun b j id hj => ?_)
    simp only [Own.push] at hj
    split at hj
    · exact .inl (by assumption)
    · exact .inr hj

/-! Orders -/

theorem force_eq {α : Type} (n : Nat) (f : Nat → α) : force n f = f n := by cases n <;> rfl

theorem maskOf_spec {acc : List Nat} {j : Nat} : ∀ {es : List Edge} {m : Nat}, (maskOf acc es m).testBit j = true → m.testBit j = true ∨ ∃ e ∈ es, Region.binds .any e = true ∧ (e.on = j ∨ (acc.getD e.on 0).testBit j = true)
  | [], m, h => .inl h
  | e :: r, m, h => by
    simp only [maskOf, force_eq] at h
    split at h
    · rename_i hb
      rcases maskOf_spec h with h | ⟨e', h1, h2, h3⟩
      · rw [Nat.testBit_or, Nat.testBit_or, Bool.or_eq_true, Bool.or_eq_true] at h
        rcases h with (h | h) | h
        · exact .inl h
        · rw [Nat.testBit_two_pow] at h
          exact .inr ⟨e, by simp, hb, .inl (by simpa using h)⟩
        · exact .inr ⟨e, by simp, hb, .inr h⟩
      · exact .inr ⟨e', List.mem_cons_of_mem _ h1, h2, h3⟩
    · rcases maskOf_spec h with h | ⟨e', h1, h2, h3⟩
      · exact .inl h
      · exact .inr ⟨e', List.mem_cons_of_mem _ h1, h2, h3⟩

theorem aft_pre : ∀ (l : List Oper) (acc : List Nat), ∃ r, aft l acc = acc ++ r
  | [], acc => ⟨[], by simp [aft]⟩
  | o :: l, acc => by
    simp only [aft, force_eq]
    obtain ⟨r, hr⟩ := aft_pre l (acc ++ [maskOf acc o.after.toList 0])
    exact ⟨maskOf acc o.after.toList 0 :: r, by rw [hr]; simp⟩

theorem aft_get : ∀ (l : List Oper) (acc : List Nat) (p : Nat) (o : Oper), l[p]? = some o → ∃ acc' r, aft l acc = acc' ++ r ∧ (aft l acc)[acc.length + p]? = some (maskOf acc' o.after.toList 0)
  | [], acc, p, o, h => by simp at h
  | x :: l, acc, p, o, h => by
    simp only [aft, force_eq]
    cases p with
    | zero =>
      simp at h; subst h
      obtain ⟨r, hr⟩ := aft_pre l (acc ++ [maskOf acc x.after.toList 0])
      exact ⟨acc, maskOf acc x.after.toList 0 :: r, by rw [hr]; simp, by rw [hr]; simp⟩
    | succ p =>
      obtain ⟨acc', r, h1, h2⟩ := aft_get l (acc ++ [maskOf acc x.after.toList 0]) p o (by simpa using h)
      refine ⟨acc', r, h1, ?_⟩
      rw [← h2]; congr 1; simp; omega

theorem before_edge {ops : Array Oper} {i j : Nat} {o : Oper} (ho : ops[i]? = some o) (h : isBefore (afters ops) j i = true) : ∃ e ∈ o.after, Region.binds .any e = true ∧ (e.on = j ∨ isBefore (afters ops) j e.on = true) := by
  obtain ⟨acc', r, h1, h2⟩ := aft_get ops.toList [] i o (by simpa using ho)
  simp only [isBefore, afters] at h ⊢
  simp only [List.length_nil, Nat.zero_add] at h2
  rw [List.getD_eq_getElem?_getD, h2, Option.getD_some] at h
  rcases maskOf_spec h with h | ⟨e, e1, e2, e3⟩
  · simp at h
  · refine ⟨e, by simpa using e1, e2, e3.imp id fun e3 => ?_⟩
    rw [h1]
    by_cases hl : e.on < acc'.length
    · rw [List.getD_eq_getElem?_getD] at e3 ⊢
      rw [List.getElem?_append_left hl]; exact e3
    · rw [List.getD_eq_getElem?_getD, List.getElem?_eq_none (by omega)] at e3
      simp at e3

theorem order_ready {md : Region.Mode} {ops : Array Oper} {D : Nat → Bool} : ∀ (l done : List Nat), orderOk md ops.toList l done = true → (∀ i ∈ done, D i = true) → (∃ i, i < ops.size ∧ D i = false) →
    ∃ i o, ops[i]? = some o ∧ D i = false ∧ ∀ e ∈ o.after, Region.binds md e = true → D e.on = true
  | [], done, h, hd, ⟨i, hi, hf⟩ => by
    simp only [orderOk, List.all_eq_true] at h
    have := h i (by simpa using hi)
    rw [hd i (List.contains_iff_mem.1 this)] at hf; cases hf
  | i :: r, done, h, hd, hx => by
    simp only [orderOk, Bool.and_eq_true] at h
    obtain ⟨h1, h2⟩ := h
    cases hD : D i with
    | true =>
      exact order_ready r (i :: done) h2 (fun j hj => by rcases List.mem_cons.1 hj with rfl | hj; exact hD; exact hd j hj) hx
    | false =>
      split at h1
      · rename_i o ho
        refine ⟨i, o, by simpa using ho, hD, fun e he hb => ?_⟩
        have := List.all_eq_true.1 h1 e (by simpa using he)
        simp only [hb, Bool.not_true, Bool.false_or] at this
        exact hd _ (List.contains_iff_mem.1 this)
      · cases h1

end
end Go.Am

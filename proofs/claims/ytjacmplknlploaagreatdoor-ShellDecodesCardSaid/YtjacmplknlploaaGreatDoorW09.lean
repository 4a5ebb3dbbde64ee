/- All code. The evaluation is right. The same evaluation, with frames as trees, for the kernel. -/
import Derived.Test.YtjacmplknlploaaGreatDoorW08
set_option linter.all false
namespace Go.Am

section
variable {P : Program} {ng : Nat} {E : Env} {rec : Rec} {G : Gh} {own : Own} {fr fr' : List AV} {a : Act} {w : World} {s s' : St} {v : AV} {Q : Exit → Act → World → Prop}

theorem least {p : Nat → Prop} (h : ∃ j, p j) : ∃ j, p j ∧ ∀ i, p i → j ≤ i := by
  classical
  obtain ⟨j, hj⟩ := h
  induction j using Nat.strongRecOn with
  | _ j ih =>
    by_cases hx : ∃ i, i < j ∧ p i
    · obtain ⟨i, hi, hp⟩ := hx; exact ih i hi hp
    · exact ⟨j, hj, fun i hi => Nat.le_of_not_lt fun hlt => hx ⟨i, hlt, hi⟩⟩

/-- A region that ends with a deferred call. -/
theorem defer_sound (hE : CallsR P ng E rec) {fl : Nat → Nat} {id : Nat} {ops : Array Oper} {draw : Bool} {ss : List IStmt} {c : Opd} {as : List Opd} {ds : List D} {s1 : St} (hl : lowDefer P ng fl ops draw = some (.dfr ss c as))
    (hR : Rel P ng s w G own) (hf : RepF G fr a) (hd : DF G none ds) (he : evOps E rec ss fr s = some (fr', s1)) (hc : ∃ f first cap, c.ev fr' = .fn f first cap)
    (hQ : ∀ a' w', AfterC P ng G none fr' (.call (c.ev fr') (as.map (Opd.ev fr')) :: ds) s1 a' w' → Q .normal a' w') : (Code.region id ops draw).wpIn (Fw none) 0 P Q a w := by
  unfold lowDefer at hl
  split at hl
  · cases hl
  rename_i hdr
  have hdr' : draw = false := by simpa using hdr
  subst hdr'
  split at hl
  case h_2 => cases hl
  rename_i f args ats ty pos aft hlast
  split at hl
  case h_2 => cases hl
  rename_i ss' y ys hss hy hys
  cases hl
  apply wpIn_region
  have hsplit : ops.toList = ops.toList.dropLast ++ [⟨none, .defer { callee := .value f, args := args, argTypes := ats }, ty, pos, aft, none⟩] := by
    obtain ⟨init, hi⟩ := List.getLast?_eq_some_iff.1 hlast
    rw [hi]; simp
  have hlen : ops.size = ops.toList.dropLast.length + 1 := by
    have := congrArg List.length hsplit
    simpa using this
  have hrange : List.range ops.size = List.range' 0 ops.toList.dropLast.length ++ [ops.toList.dropLast.length] := by
    rw [hlen, List.range_eq_range', List.range'_1_concat]; simp
  rw [hrange]
  refine ops_sound (r := none) hE _ ops.toList.dropLast 0 ss fr s a w G own (fun i o h => ?_) hss hR hf he (fun a' w' hA => ?_)
  · have : ops.toList[i]? = some o := by
      rw [hsplit, List.getElem?_append]
      have hlt : i < ops.toList.dropLast.length := (List.getElem?_eq_some_iff.1 h).1
      rw [if_pos hlt]; exact h
    simpa using this
  · obtain ⟨H, own', q1, q2, q3⟩ := hA
    have ho : ops[ops.toList.dropLast.length]? = some ⟨none, .defer { callee := .value f, args := args, argTypes := ats }, ty, pos, aft, none⟩ := by
      have : ops.toList[ops.toList.dropLast.length]? = some ⟨none, .defer { callee := .value f, args := args, argTypes := ats }, ty, pos, aft, none⟩ := by
        conv => lhs; rw [hsplit]
        simp
      simpa using this
    rw [wpOpsIn_cons]
    simp only [wpOpIn, ho]
    rw [if_pos (by simp [Region.wanted])]
    obtain ⟨f', first, cap, hfn⟩ := hc
    have rf := lowX_rep q1 hy q2.glob
    have ra := lowXs_rep q1 q2.glob hys
    rw [hfn] at rf
    generalize hav : a'.eval f = fv at rf
    cases rf with
    | fn _ _ _ us vs h1 h2 r1 r2 =>
      simp only [Oper.wpIn, Fw, Oper.semAt_none]
      refine ⟨fun _ _ => trivial, ?_⟩
      have hex : (execOp a'.eval ⟨none, .defer { callee := .value f, args := args, argTypes := ats }, ty, pos, aft, none⟩).run P w' = .ok (.defer { target := .fn (.func f') vs, args := us ++ args.map a'.eval }) w' := by
        simp [execOp, resolve, hav, Deferred.ofValue]
      rw [hex]
      simp only [Oper.uponIn, wpOpsIn, Act.put]
      refine hQ _ _ ⟨H.setD ({ target := .fn (.func f') vs, args := us ++ args.map a'.eval } :: H.dl), own', ⟨q1.1.mono3 (H.setD_le _), by simp [Gh.setD, q1.2]⟩, q2.setD _, q3.c.setD _, ?_⟩
      have hd2 : DsOk H ds H.dl := hd.of q3.weak
      refine .cons ⟨f', us, vs, args.toList.map a'.eval, ?_, ra.mono3 (H.setD_le _), ?_⟩ (hd2.mono (H.setD_le _))
      · rw [hfn]
        exact (RepV.fn f' first cap us vs h1 h2 r1 r2).mono3 (H.setD_le _)
      · congr 1
        congr 1
        apply Array.ext'; simp

theorem DF.notRound {r : Option Nat} {ds : List D} (h : DF G r ds) (hn : inRound ds = false) : r = none := by
  cases r with
  | none => rfl
  | some l => rw [h.1] at hn; cases hn

def LS.jump : LS → Option Code
  | .done x => x.code
  | _ => none

/-- A loop over a function. -/
theorem range_sound (hE : CallsR P ng E rec) {f : Operand} {f' : Opd} {ps : Array Tmp} {ca cb : Code} {A B : ICode} {fl : Nat → Nat} {x : X} {ds ds' : List D} (hf' : lowX ng f = some f') (ha : low P ng fl ca = some A) (hb : low P ng fl cb = some B)
    (hR : Rel P ng s w G own) (hf : RepF G fr a) (hd : DF G none ds) (he : evRange E rec fr ds s (f'.ev fr) ps.toList A B = some (x, fr', ds', s'))
    (hQ : ∀ a' w', AfterC P ng G none fr' ds' s' a' w' → Q x.exit' a' w') : (Code.rangeFunc f ps ca cb).wpIn (Fw none) 0 P Q a w := by
  unfold evRange at he
  split at he
  · cases he
  split at he
  case h_2 => cases he
  rename_i g first captured hfn
  split at he
  · cases he
  split at he
  case h_2 => cases he
  rename_i u0 s1 hcall
  have rf := lowX_rep hf hf' hR.glob
  rw [hfn] at rf
  generalize hav : a.eval f = fv at rf
  cases rf with
  | fn _ _ _ us vs h1 h2 r1 r2 =>
    refine wpIn_rangeFunc fun fn _ => ?_
    -- the mark's block, and the loop's
    let w1 : World := { w with heap := w.heap.push (.deferred (some [])) }
    let L : Loop := { state := .ready, pending := none, fn, tmps := a.tmps, params := ps, assign := ca, body := cb, defers := w.heap.size }
    let w2 : World := { w1 with heap := w1.heap.push (.loop L) }
    have hr1 := hR.push_obj (.deferred (some [])) 0 0 (fun _ => none) none .dfr (fun j v h => by cases h) (fun n h => by cases h) (fun c t f h => by cases h) w1 rfl (fun e' he' => by
      subst he'
      exact ⟨w.heap.size, by simp [Gh.push], by simp [w1], by simp [Own.push]⟩)
    have hle1 := hR.push_le (some 0) (fun _ => none) none
    simp only [Option.map_some] at hle1
    generalize hG1 : G.push w.heap.size (some (s.next, 0)) (fun _ => none) none = G1 at hr1 hle1
    have hl1 : G1.loc s.next = some (w.heap.size, 0) := by rw [← hG1]; simp [Gh.push]
    have hr2 := hr1.push_obj (.loop L) 0 0 (fun _ => none) none (.loop fr ps.toList A B .ready) (fun j v h => by cases h) (fun n h => by cases h) (fun c t f h => by cases h) w2 rfl (fun e' he' => by
      subst he'
      have hle := hr1.push_le (some 0) (fun _ => none) none
      simp only [Option.map_some] at hle
      exact ⟨w1.heap.size, L, by simp [Gh.push], by simp [w2], (hf.1.mono hle1).mono hle, rfl, ⟨fl, ha⟩, ⟨fl, hb⟩, ⟨rfl, rfl⟩, by simp [Own.push]⟩)
    have hle2 := hr1.push_le (some 0) (fun _ => none) none
    simp only [Option.map_some] at hle2
    generalize hG2 : G1.push w1.heap.size (some ((s.add .dfr).next, 0)) (fun _ => none) none = G2 at hr2 hle2
    have hl2 : G2.loc (s.next + 1) = some (w.heap.size + 1, 0) := by
      rw [← hG2]; simp [Gh.push, St.add, w1]
    have hnx : (s.add .dfr).next = s.next + 1 := rfl
    have hle : G.le G2 := hle1.trans hle2
    have ra : RepL G2 (first ++ (.yld (s.next + 1) :: captured)) (us.toList ++ (.func (.yield (w.heap.size + 1)) #[] #[] :: vs.toList)) :=
      RepL.append (RepL.mono hle ⟨by simpa using h1, fun i a v x y => r1 i a v x (by simpa using y)⟩)
        (RepL.cons (.yld _ _ hl2) (RepL.mono hle ⟨by simpa using h2, fun i a v x y => r2 i a v x (by simpa using y)⟩))
    obtain ⟨c1, c2⟩ := hE.enter _ _ _ _ _ _ _ w2 _ hcall hr2 ra
    have harr : (us.toList ++ (.func (.yield (w.heap.size + 1)) #[] #[] :: vs.toList)).toArray = us ++ #[.func (.yield (w.heap.size + 1)) #[] #[]] ++ vs := by apply Array.ext'; simp
    rw [harr] at c1 c2
    refine ⟨w.heap.size + 1, [{ target := .collected w.heap.size, args := #[] }], w2, { target := .fn (.func g) vs, args := us ++ #[.func (.yield (w.heap.size + 1)) #[] #[]] }, w2, g, _, w2, ?_, ?_, fun _ _ => trivial, c1, nofun, calls_fw (c2.mono fun e w3 hP => ?_)⟩
    · have e1 : w1.heap.size = w.heap.size + 1 := by simp [w1]
      simp only [Instr.enterLoop, Fw, Sem.run_bind, run_newObj, Result.andThen_ok, Sem.run_pure]
      show Result.ok (w1.heap.size, _) _ = _
      rw [e1]
    · simp only [resolve, rangeCall, hav, Deferred.ofValue, Sem.run_pure]
      simp [Act.eval]
    · cases e with
      | panicked c => exact hP.elim
      | outgrown => exact hP.elim
      | returned u =>
        obtain ⟨H, own', q1, q2, q3⟩ := hP
        have hloc : H.loc (s.next + 1) = some (w.heap.size + 1, 0) := q3.loc _ _ hl2
        have hmk : H.loc s.next = some (w.heap.size, 0) := q3.loc _ _ (hle2.loc _ _ hl1)
        have fin : ∀ (st : LS) (fr0 : List AV) (p0 : List Nat) (a0 b0 : ICode), look s1.objs (s.next + 1) = some (.loop fr0 p0 a0 b0 st) → st ≠ .busy → ∃ r w4, (Instr.endLoop (w.heap.size + 1)).run P w3 = .ok r w4 ∧ r = st.jump ∧
            ∀ fr' ds' s', fr' = fr → ds' = .mark s.next :: ds → s' = s1.del (s.next + 1) → AfterC P ng G none fr' ds' s' { a with defers := [{ target := .collected w.heap.size, args := #[] }] ++ a.defers } w4 := by
          intro st fr0 p0 a0 b0 hlk hnb
          obtain ⟨d, r, n1, n2, n3, n4, n5, n6, n7, n8⟩ := q2.objL hlk hloc
          rw [hloc] at n1; cases n1
          have hst : r.state ≠ .busy ∧ r.pending = st.jump := by
            cases st with
            | ready => obtain ⟨e1, e2⟩ := n7; exact ⟨by rw [e1]; simp, e2⟩
            | busy => exact absurd rfl hnb
            | done x => obtain ⟨e1, _, e2⟩ := n7; exact ⟨by rw [e1]; simp, e2⟩
          obtain ⟨H2, own2, m1, m2⟩ := rel_del q2 hlk n2 rfl rfl n8 (y := .loop { r with state := .exhausted }) (w' := { w3 with heap := w3.heap.setIfInBounds (w.heap.size + 1) (.loop { r with state := .exhausted }) }) rfl
          refine ⟨r.pending, { w3 with heap := w3.heap.setIfInBounds (w.heap.size + 1) (.loop { r with state := .exhausted }) }, ?_, hst.2, ?_⟩
          · have hb : (r.state == LoopState.busy) = false := by cases hx : r.state <;> first | rfl | exact absurd hx hst.1
            simp only [Instr.endLoop, Instr.getLoop, Sem.run_bind, getObj_run n2 rfl, Result.andThen_ok, Sem.run_pure, hb, Bool.false_eq_true, if_false, setObj_run n2 rfl]
          · rintro _ _ _ rfl rfl rfl
            have hall : G.leC H2 := (hle.trans (q3.trans m2)).c
            refine ⟨H2.setD ([{ target := .collected w.heap.size, args := #[] }] ++ G.dl), own2, ⟨(hf.1.mono3 hall.tole3).mono3 (H2.setD_le _), by rw [hf.2]; rfl⟩, m1.setD _, hall.setD _, ?_⟩
            refine .cons ⟨w.heap.size, m2.loc _ _ hmk, rfl⟩ (DsOk.mono (hall.tole3.trans (H2.setD_le _)) hd)
        split at he
        · rename_i hlk
          obtain ⟨r, w4, k1, k2, k3⟩ := fin _ _ _ _ _ hlk (by simp)
          simp only [Option.some.injEq, Prod.mk.injEq] at he
          obtain ⟨rfl, e2, e3, e4⟩ := he
          refine ⟨r, w4, k1, ?_⟩
          subst k2
          exact hQ _ _ (k3 _ _ _ e2.symm e3.symm e4.symm)
        · rename_i x0 hlk
          obtain ⟨r, w4, k1, k2, k3⟩ := fin _ _ _ _ _ hlk (by simp)
          simp only [Option.some.injEq, Prod.mk.injEq] at he
          obtain ⟨rfl, e2, e3, e4⟩ := he
          refine ⟨r, w4, k1, ?_⟩
          have hA := k3 _ _ _ e2.symm e3.symm e4.symm
          simp only [LS.jump] at k2
          cases x0 with
          | normal => subst k2; exact hQ _ _ hA
          | exit i => subst k2; exact wpIn_exit (hQ _ _ hA)
          | ret => subst k2; exact wpIn_ret (hQ _ _ hA)
        · cases he

end
end Go.Am

namespace Go.Am

section
variable {P : Program} {ng : Nat} {E : Env} {rec : Rec} {G : Gh} {own : Own} {fr fr' : List AV} {a : Act} {w : World} {s s' : St} {v : AV} {Q : Exit → Act → World → Prop}

theorem wpIn_inBlock {r : Option Nat} {id : Nat} {c : Code} (h : c.wpIn (Fw r) 0 P (Exit.inBlock id Q) a w) : (Code.block id c).wpIn (Fw r) 0 P Q a w := wpIn_block h

theorem code_sound (hV : EnvOk P ng E) : ∀ n, CodeR P ng (ev E n) := by
  intro n
  induction n using Nat.strongRecOn with
  | _ n ih =>
  cases n with
  | zero => intro r c ic fl fr ds s x fr' ds' s' G own a w Q hl hR hf hd he hQ; simp [ev] at he
  | succ n =>
    have hC := ih n (Nat.lt_succ_self n)
    have hE := calls_sound hV hC
    intro r c ic fl fr ds s x fr' ds' s' G own a w Q hl hR hf hd he hQ
    simp only [ev] at he
    cases c with
    | skip =>
      simp only [low, Option.some.injEq] at hl; subst hl
      simp only [step, Option.some.injEq, Prod.mk.injEq] at he
      obtain ⟨rfl, rfl, rfl, rfl⟩ := he
      exact wpIn_skip (hQ _ _ ⟨G, own, hf, hR, Gh.leC.refl G, hd⟩)
    | region id ops draw =>
      simp only [low] at hl
      split at hl
      · rename_i ic' hdf
        cases hl
        have hsh : ∃ ss c as, ic = .dfr ss c as := by
          unfold lowDefer at hdf
          split at hdf
          · cases hdf
          · split at hdf
            · split at hdf
              · cases hdf; exact ⟨_, _, _, rfl⟩
              · cases hdf
            · cases hdf
        obtain ⟨ss, c, as, rfl⟩ := hsh
        simp only [step] at he
        split at he
        · cases he
        rename_i hnr
        have hr0 : r = none := hd.notRound (by simpa using hnr)
        subst hr0
        split at he
        case h_2 => cases he
        rename_i fr1 s1 hev
        split at he
        case h_2 => cases he
        rename_i f first cap hfn
        simp only [Option.some.injEq, Prod.mk.injEq] at he
        obtain ⟨rfl, rfl, rfl, rfl⟩ := he
        refine defer_sound hE hdf hR hf hd hev ⟨_, _, _, hfn⟩ (fun a' w' hA => ?_)
        rw [hfn] at hA
        exact hQ _ _ hA
      · simp only [Option.map_eq_some_iff] at hl
        obtain ⟨ss, hss, rfl⟩ := hl
        simp only [step] at he
        split at he
        · rename_i fr1 s1 hev
          simp only [Option.some.injEq, Prod.mk.injEq] at he
          obtain ⟨rfl, rfl, rfl, rfl⟩ := he
          cases draw with
          | false => exact reg_sound hE hss hR hf hev fun a' w' hA => hQ _ _ (.of hd hA)
          | true => exact draw_sound hE hss hR hf hev fun a' w' hA => hQ _ _ (.of hd hA)
        · cases he
    | seq p q =>
      simp only [low] at hl
      split at hl
      · rename_i ip iq hp hq
        cases hl
        simp only [step] at he
        apply wpIn_seq
        split at he
        · rename_i fr1 ds1 s1 h1
          refine hC r p ip fl fr ds s .normal fr1 ds1 s1 G own a w _ hp hR hf hd h1 (fun a' w' hA => ?_)
          obtain ⟨H, own', q1, q2, q3, q4⟩ := hA
          refine hC r q iq fl fr1 ds1 s1 x fr' ds' s' H own' a' w' Q hq q2 q1 q4 he (fun a2 w2 hA2 => ?_)
          obtain ⟨H2, own2, p1, p2, p3, p4⟩ := hA2
          exact hQ _ _ ⟨H2, own2, p1, p2, q3.trans p3, p4⟩
        · rename_i hne
          refine hC r p ip fl fr ds s x fr' ds' s' G own a w _ hp hR hf hd he (fun a' w' hA => ?_)
          have := hQ a' w' hA
          cases x with
          | normal => exact absurd he (hne fr' ds' s')
          | exit id => exact this
          | ret => exact this
      · cases hl
    | cond c p q =>
      simp only [low] at hl
      split at hl
      · rename_i ic' ip iq hc hp hq
        cases hl
        simp only [step] at he
        have rc := lowX_rep hf hc hR.glob
        split at he
        · rename_i e1
          rw [e1] at rc
          exact wpIn_cond_true rc.bool_inv (hC r p ip fl fr ds s x fr' ds' s' G own a w Q hp hR hf hd he hQ)
        · rename_i e1
          rw [e1] at rc
          exact wpIn_cond_false rc.bool_inv (hC r q iq fl fr ds s x fr' ds' s' G own a w Q hq hR hf hd he hQ)
        · cases he
      · cases hl
    | block id b =>
      simp only [low, Option.map_eq_some_iff] at hl
      obtain ⟨ib, hb, rfl⟩ := hl
      simp only [step] at he
      apply wpIn_block
      split at he
      · rename_i i fr1 ds1 s1 h1
        refine hC r b ib fl fr ds s (.exit i) fr1 ds1 s1 G own a w _ hb hR hf hd h1 (fun a' w' hA => ?_)
        show (if i = id then Q .normal a' w' else Q (.exit i) a' w')
        split at he
        · rename_i e; simp only [Option.some.injEq, Prod.mk.injEq] at he
          obtain ⟨rfl, rfl, rfl, rfl⟩ := he
          rw [if_pos e]; exact hQ _ _ hA
        · rename_i e; simp only [Option.some.injEq, Prod.mk.injEq] at he
          obtain ⟨rfl, rfl, rfl, rfl⟩ := he
          rw [if_neg e]; exact hQ _ _ hA
      · rename_i hne
        refine hC r b ib fl fr ds s x fr' ds' s' G own a w _ hb hR hf hd he (fun a' w' hA => ?_)
        have := hQ a' w' hA
        cases x with
        | normal => exact this
        | exit i => exact absurd he (hne i fr' ds' s')
        | ret => exact this
    | loop b =>
      simp only [low, Option.map_eq_some_iff] at hl
      obtain ⟨ib, hb, rfl⟩ := hl
      -- at each round the evaluation goes on with less
      let W : Nat → Act → World → Prop := fun j a w => j ≤ n + 1 ∧ ∃ fr ds s H own', ev E j (.loop ib) fr ds s = some (x, fr', ds', s') ∧ RepF H fr a ∧ Rel P ng s w H own' ∧ G.leC H ∧ DF H r ds
      classical
      let μ : Act → World → Nat := fun a w => if h : ∃ j, W j a w then Classical.choose (least h) else 0
      refine wpIn_loop (fun a w => ∃ j, W j a w) μ ⟨n + 1, Nat.le_refl _, fr, ds, s, G, own, he, hf, hR, Gh.leC.refl G, hd⟩ (fun a1 w1 h1 => ?_)
      have hμ : μ a1 w1 = Classical.choose (least h1) := dif_pos h1
      obtain ⟨hj, fr1, ds1, s1, H, own', e1, e2, e3, e4, e5⟩ := (Classical.choose_spec (least h1)).1
      generalize Classical.choose (least h1) = j at *
      cases j with
      | zero => simp [ev] at e1
      | succ j =>
        simp only [ev, step] at e1
        have hCj := ih j (by omega)
        split at e1
        · rename_i fr2 ds2 s2 h2
          refine hCj r b ib fl fr1 ds1 s1 .normal fr2 ds2 s2 H own' a1 w1 _ hb e3 e2 e5 h2 (fun a' w' hA => ?_)
          obtain ⟨H2, own2, p1, p2, p3, p4⟩ := hA
          have hW : W j a' w' := ⟨by omega, fr2, ds2, s2, H2, own2, e1, p1, p2, e4.trans p3, p4⟩
          refine ⟨⟨j, hW⟩, ?_⟩
          have hex : ∃ j, W j a' w' := ⟨j, hW⟩
          have : μ a' w' = Classical.choose (least hex) := dif_pos hex
          rw [this, hμ]
          exact Nat.lt_succ_of_le ((Classical.choose_spec (least hex)).2 j hW)
        · rename_i hne
          refine hCj r b ib fl fr1 ds1 s1 x fr' ds' s' H own' a1 w1 _ hb e3 e2 e5 e1 (fun a' w' hA => ?_)
          obtain ⟨H2, own2, p1, p2, p3, p4⟩ := hA
          have := hQ a' w' ⟨H2, own2, p1, p2, e4.trans p3, p4⟩
          cases x with
          | normal => exact absurd e1 (hne fr' ds' s')
          | exit i => exact this
          | ret => exact this
    | exit id =>
      simp only [low, Option.some.injEq] at hl; subst hl
      simp only [step, Option.some.injEq, Prod.mk.injEq] at he
      obtain ⟨rfl, rfl, rfl, rfl⟩ := he
      exact wpIn_exit (hQ _ _ ⟨G, own, hf, hR, Gh.leC.refl G, hd⟩)
    | ret =>
      simp only [low, Option.some.injEq] at hl; subst hl
      simp only [step, Option.some.injEq, Prod.mk.injEq] at he
      obtain ⟨rfl, rfl, rfl, rfl⟩ := he
      exact wpIn_ret (hQ _ _ ⟨G, own, hf, hR, Gh.leC.refl G, hd⟩)
    | rangeFunc f ps p q =>
      simp only [low] at hl
      split at hl
      case h_2 => cases hl
      rename_i f' A B hf' ha hb
      cases hl
      simp only [step] at he
      have hnr : inRound ds = false := by
        cases hx : inRound ds with
        | false => rfl
        | true => unfold evRange at he; rw [if_pos hx] at he; cases he
      have hr0 : r = none := hd.notRound hnr
      subst hr0
      exact range_sound hE hf' ha hb hR hf hd he hQ
    | _ => simp [low] at hl

/-- What is evaluated is what the program does. -/
theorem does_sound (hV : EnvOk P ng E) {f : Nat} {args : List AV} {v : AV} (h : CallsTo E f args s v s') (hR : Rel P ng s w G own) {us : List Value} (hr : RepL G args us) : Does P f us.toArray w (Post P ng G v s') := by
  obtain ⟨n, hn⟩ := h
  exact (calls_sound hV (code_sound hV n)).call f args s v s' G own w us hn hR hr

end
end Go.Am

namespace Go.Am
abbrev Look := Opd → AV
def fillsG (cs : List AV) (ρ : Look) : List (Nat × Nat × Opd) → Option (List AV)
  | [] => some cs
  | (off, sz, x) :: r =>
    if (ρ x).nt ∧ (ρ x).cells.length = sz then
      match put cs off (ρ x).cells with
      | some cs' => fillsG cs' ρ r
      | none => none
    else none
def fillEG (sz : Nat) (xs : List AV) (ρ : Look) : List (Nat × Opd) → Option (List AV)
  | [] => some xs
  | (i, x) :: r => if (ρ x).nt ∧ (ρ x).cells.length = sz ∧ i < xs.length then fillEG sz (xs.set i (ρ x)) ρ r else none
def bLoG (ρ : Look) (h : Nat) : Option Opd → Option Nat
  | some l => bound (ρ l) h
  | none => some 0
def bHiG (ρ : Look) (n : Nat) : Option Opd → Option Nat
  | some h => bound (ρ h) n
  | none => some n
def boundsG (ρ : Look) (n : Nat) (lo hi : Option Opd) : Option (Nat × Nat) :=
  match bHiG ρ n hi with
  | some h => match bLoG ρ h lo with
    | some l => some (l, h)
    | none => none
  | none => none
def evMxG (max : Bool) (k : IntKind) (a : Int) (ρ : Look) : List Opd → Option AV
  | [] => some (.int k a)
  | x :: r => match ρ x with
    | .int _ b => evMxG max k (mx2 max a b) ρ r
    | _ => none
def evOpG : IOp → Look → St → Option (AV × St)
  | .mov x => fun ρ s =>
    some (ρ x, s)
  | .pick c a b => fun ρ s =>
    match ρ c with
      | .bool true => some (ρ a, s)
      | .bool false => some (ρ b, s)
      | _ => none
  | .alloc ty cs => fun ρ s =>
    some (.ptr s.next 0, s.add (.cells ty cs))
  | .box ty x => fun ρ s =>
    if (ρ x).nt then some (.ptr s.next 0, s.add (.cells ty (ρ x).cells)) else none
  | .build zero parts => fun ρ s =>
    match fillsG zero ρ parts with
      | some cs => some (.agg cs, s)
      | none => none
  | .mksl tag ty sz zero n parts => fun ρ s =>
      if zero.nt ∧ zero.cells.length = sz ∧ 0 < sz then
        match fillEG sz (List.replicate n zero) ρ parts with
        | some xs => if tag then some (.sl s.next sz xs, s.add (.tail ty)) else some (.sl 1 sz xs, s)
        | none => none
      else none
  | .load k a => fun ρ s =>
    match cellsAt s.objs (ρ a) with
      | some cs => match take k cs with
        | some v => some (v, s)
        | none => none
      | none => none
  | .store n a v => fun ρ s =>
      if (ρ v).nt ∧ (ρ v).cells.length = n then
        match storeAt s (ρ a) (ρ v).cells with
        | some s' => some (.undef, s')
        | none => none
      else none
  | .nilchk x => fun ρ s =>
    match ρ x with
      | .ptr i o => some (.ptr i o, s)
      | .iptr cs => some (.iptr cs, s)
      | .fn f a b => some (.fn f a b, s)
      | _ => none
  | .bin op x y => fun ρ s =>
    match bin op (ρ x) (ρ y) with
      | some v => some (v, s)
      | none => none
  | .eqb neg x y => fun ρ s =>
    match ρ x, ρ y with
      | .bool a, .bool b => some (.bool (if neg then !(a == b) else a == b), s)
      | _, _ => none
  | .eqp neg x y => fun ρ s =>
    match ρ x, ρ y with
      | .nptr, .nptr => some (.bool (!neg), s)
      | .nptr, .ptr _ _ | .nptr, .iptr _ | .ptr _ _, .nptr | .iptr _, .nptr => some (.bool neg, s)
      | _, _ => none
  | .eqs neg x y => fun ρ s =>
    match ρ x, ρ y with
      | .nsl, .nsl => some (.bool (!neg), s)
      | .nsl, .sl _ _ _ | .nsl, .hsl _ _ _ _ | .sl _ _ _, .nsl | .hsl _ _ _ _, .nsl => some (.bool neg, s)
      | _, _ => none
  | .eqm neg x y => fun ρ s =>
    match ρ x, ρ y with
      | .nmap, .nmap => some (.bool (!neg), s)
      | .nmap, .map _ | .map _, .nmap => some (.bool neg, s)
      | _, _ => none
  | .eqf neg x y => fun ρ s =>
    match ρ x, ρ y with
      | .nfn, .nfn => some (.bool (!neg), s)
      | .nfn, .fn _ _ _ | .fn _ _ _, .nfn => some (.bool neg, s)
      | _, _ => none
  | .eqa neg sh x y => fun ρ s =>
    match ρ x, ρ y with
      | .agg a, .agg b => match cmpCells sh a b with
        | some r => some (.bool (if neg then !r else r), s)
        | none => none
      | _, _ => none
  | .un op x => fun ρ s =>
    match op, ρ x with
      | .neg, .int k n => some (.int k (wrapF k (0 - n)), s)
      | .xor, .int k n => some (.int k (wrapF k (Int.ofNat (Nat.xor (toN k (allOnes k)) (toN k n)))), s)
      | .not, .bool b => some (.bool (!b), s)
      | _, _ => none
  | .conv k x => fun ρ s =>
    match ρ x with
      | .int _ n => some (.int k (wrapF k n), s)
      | _ => none
  | .b2s x => fun ρ s =>
    match ρ x with
      | .str _ => none
      | v => match elems s.objs false 1 v with
        | some xs => match bytesOf xs with
          | some b => some (.str b, s)
          | none => none
        | none => none
  | .convS x => fun ρ s =>
    match ρ x with
      | .str b => some (.str b, s)
      | _ => none
  | .s2b x => fun ρ s =>
    match ρ x with
      | .str b => some (.sl 0 1 (b.map fun c => .int .u8 (Int.ofNat c)), s)
      | _ => none
  | .slstr x lo hi => fun ρ s =>
    match ρ x with
      | .str b => match boundsG ρ b.length lo hi with
        | some (l, h) => some (.str ((b.take h).drop l), s)
        | none => none
      | _ => none
  | .slsl sz x lo hi => fun ρ s =>
    match ρ x with
      | .nsl => match boundsG ρ 0 lo hi with
        | some _ => some (.nsl, s)
        | none => none
      | .sl _ z xs => if z = sz then match boundsG ρ xs.length lo hi with
        | some (l, h) => some (.sl 0 sz ((xs.take h).drop l), s)
        | none => none
        else none
      | .hsl id off len z => if z = sz then match boundsG ρ len lo hi with
        | some (l, h) => if l < h ∨ l = 0 then some (.hsl id (off + l) (h - l) sz, s) else some (.sl 0 sz [], s)
        | none => none
        else none
      | _ => none
  | .slarr n sz x lo hi => fun ρ s =>
    match ρ x with
      | .ptr id off => match boundsG ρ n lo hi with
        | some (l, h) => if off % sz = 0 ∧ 0 < sz ∧ (l < h ∨ l = 0) then
            match Am.look s.objs id with
            | some (.cells _ cs) => if off + n * sz ≤ cs.length then some (.hsl id (off / sz + l) (h - l) sz, s) else none
            | _ => none
          else none
        | none => none
      | _ => none
  | .fld off x => fun ρ s =>
    match ρ x with
      | .ptr id o => some (.ptr id (o + off), s)
      | .iptr cs => some (.iptr (cs.drop off), s)
      | _ => none
  | .part off k x => fun ρ s =>
    match ρ x with
      | .agg cs => match take k (cs.drop off) with
        | some v => some (v, s)
        | none => none
      | _ => none
  | .ixa n sz x i => fun ρ s =>
    match ρ i with
      | .int _ j => if 0 ≤ j ∧ j < Int.ofNat n then
          match ρ x with
          | .ptr id o => some (.ptr id (o + j.toNat * sz), s)
          | .iptr cs => some (.iptr (cs.drop (j.toNat * sz)), s)
          | _ => none
        else none
      | _ => none
  | .ixs sz x i => fun ρ s =>
    match ρ i with
      | .int _ j => if 0 ≤ j then
          match ρ x with
          | .sl _ z xs => if z = sz then match xs[j.toNat]? with
            | some v => some (.iptr v.cells, s)
            | none => none
            else none
          | .hsl id off len z => if z = sz ∧ j < Int.ofNat len then some (.ptr id ((off + j.toNat) * sz), s) else none
          | _ => none
        else none
      | _ => none
  | .ixstr x i => fun ρ s =>
    match ρ x, ρ i with
      | .str b, .int _ j => if 0 ≤ j then match b[j.toNat]? with
        | some c => some (.int .u8 (Int.ofNat c), s)
        | none => none
        else none
      | _, _ => none
  | .ixarr n sz k x i => fun ρ s =>
    match ρ x, ρ i with
      | .agg cs, .int _ j => if 0 ≤ j ∧ j < Int.ofNat n then match take k (cs.drop (j.toNat * sz)) with
        | some v => some (v, s)
        | none => none
        else none
      | _, _ => none
  | .look kk ok zero x key => fun ρ s =>
      if kk.fit (ρ key) then
        match (match ρ x with
          | .nmap => some []
          | .map id => match Am.look s.objs id with
            | some (.map es) => some es
            | _ => none
          | _ => none) with
        | some es => match findKey kk (ρ key) es 0 with
          | some (some (_, v)) => some (if ok then .tup [v, .bool true] else v, s)
          | some none => some (if ok then .tup [zero, .bool false] else zero, s)
          | none => none
        | none => none
      else none
  | .mset kk m k v => fun ρ s =>
    if kk.fit (ρ k) then match ρ m with
      | .map id => match Am.look s.objs id with
        | some (.map es) => match findKey kk (ρ k) es 0 with
          | some (some (i, _)) => some (.undef, s.set id (.map (es.set i (ρ k, ρ v))))
          | some none => some (.undef, s.set id (.map (es ++ [(ρ k, ρ v)])))
          | none => none
        | _ => none
      | _ => none
      else none
  | .mkmap => fun ρ s =>
    some (.map s.next, s.add (.map []))
  | .mkfn f a b => fun ρ s =>
    some (.fn f (a.map ρ) (b.map ρ), s)
  | .ext x i => fun ρ s =>
    match ρ x with
      | .tup vs => match vs[i]? with
        | some v => some (v, s)
        | none => none
      | _ => none
  | .app flag ty sz bytes ag x y => fun ρ s =>
    evApp s flag ty sz bytes ag (ρ x) (ρ y)
  | .copy sz d x => fun ρ s =>
    match ρ d with
      | .hsl id off len z =>
        if z = sz ∧ sz = 1 then
          match elems s.objs false 1 (ρ x) with
          | some xs => match storeAt s (.ptr id off) ((xs.take (min xs.length len)).flatMap AV.cells) with
            | some s' => some (.int .i64 (Int.ofNat (min xs.length len)), s')
            | none => none
          | none => none
        else none
      | _ => none
  | .clr sz zero x => fun ρ s =>
    match ρ x with
      | .nsl => some (.undef, s)
      | .hsl id off len z => if z = sz ∧ zero.nt ∧ zero.cells.length = sz then
          match storeAt s (.ptr id (off * sz)) ((List.replicate len zero).flatMap AV.cells) with
          | some s' => some (.undef, s')
          | none => none
        else none
      | _ => none
  | .len st x => fun ρ s =>
    match st, ρ x with
      | true, .str b => some (.int .i64 (Int.ofNat b.length), s)
      | false, .nsl => some (.int .i64 0, s)
      | false, .sl _ _ xs => some (.int .i64 (Int.ofNat xs.length), s)
      | false, .hsl _ _ n _ => some (.int .i64 (Int.ofNat n), s)
      | _, _ => none
  | .cap x => fun ρ s =>
    match ρ x with
      | .nsl => some (.int .i64 0, s)
      | _ => none
  | .mx max x xs => fun ρ s =>
    match ρ x with
      | .int k a => match evMxG max k a ρ xs with
        | some v => some (v, s)
        | none => none
      | _ => none
  | .mkslice own _ sz bytes zero l c => fun ρ s =>
    match ρ l, ρ c with
      | .int .i64 n, .int .i64 m =>
        if 0 ≤ n ∧ n = m ∧ n * Int.ofNat (bytes + 1) ≤ Int.ofNat maxL ∧ zero.nt ∧ zero.cells.length = sz ∧ 0 < sz then
          if own then some (.hsl s.next 0 n.toNat sz, s.add (.arr 0 sz ((List.replicate n.toNat zero).flatMap AV.cells))) else some (.sl 1 sz (List.replicate n.toNat zero), s)
        else none
      | _, _ => none
  | .bad => fun ρ s =>
    none
  
  
inductive T where
  | leaf (v : AV)
  | node (l r : T)
  deriving Inhabited
noncomputable def T.get (t : T) : Nat → AV := T.rec (fun v n => Nat.rec v (fun _ _ => .undef) n) (fun _ _ gl gr n => Nat.rec (gl (n / 2)) (fun _ _ => gr (n / 2)) (n % 2)) t
noncomputable def T.setK {α : Type} (v : AV) (t : T) : Nat → (T → α) → α :=
  T.rec (motive := fun _ => Nat → (T → α) → α) (fun u n k => Nat.rec (k (.leaf v)) (fun _ _ => k (.leaf u)) n) (fun l r sl sr n k => Nat.rec (sl (n / 2) fun l => k (.node l r)) (fun _ _ => sr (n / 2) fun r => k (.node l r)) (n % 2)) t
def T.mk : Nat → T
  | 0 => .leaf .undef
  | d + 1 => .node (T.mk d) (T.mk d)
noncomputable def Opd.evT (t : T) : Opd → AV
  | .t n => t.get n
  | .c v => v
  | .g n => .ptr n 0
  | .f n => .fn n [] []
noncomputable def forceN {α : Type} (n : Nat) (f : Nat → α) : α := Nat.rec (f 0) (fun k _ => f (k + 1)) n
noncomputable def forceI {α : Type} (n : Int) (f : Int → α) : α := Int.rec (fun k => forceN k fun k => f (.ofNat k)) (fun k => forceN k fun k => f (.negSucc k)) n
noncomputable def forceA {α : Type} (v : AV) (f : AV → α) : α :=
  match v with
  | .int k n => forceI n fun n => f (.int k n)
  | .bool b => Bool.rec (f (.bool false)) (f (.bool true)) b
  | v => f v
def IStmt.dstLt (N : Nat) : IStmt → Bool
  | .op (some d) _ _ | .call (some d) _ _ _ => decide (d < N)
  | _ => true

def ICode.dstLt (N : Nat) : ICode → Bool
  | .reg ss => ss.all fun st => st.dstLt N
  | .seq a b | .cond _ a b => a.dstLt N && b.dstLt N
  | .block _ b | .loop b => b.dstLt N
  | .rfunc _ _ a b => a.dstLt N && b.dstLt N
  | .dfr ss _ _ => ss.all fun st => st.dstLt N
  | _ => true

structure CallF where
  call : Nat → List AV → St → Option (AV × St)
  yld : Nat → List AV → St → Option (AV × St)
  enter : Nat → List AV → St → Option (AV × St)
noncomputable def wantedT (t : T) : Option (Nat × Bool) → Bool
  | none => true
  | some (x, b) => match t.get x with
    | .bool a => a == b
    | _ => false
noncomputable def evStT (C : CallF) : IStmt → T → St → Option (AV × St)
  | .op _ g o => match g with
    | none => fun t s => evOpG o (Opd.evT t) s
    | some (x, b) => fun t s => if wantedT t (some (x, b)) then evOpG o (Opd.evT t) s else some (.undef, s)
  | .call _ g c as => fun t s => if wantedT t g then
      match c.evT t with
      | .fn f first captured => C.call f (first ++ (as.map (Opd.evT t) ++ captured)) s
      | .yld id => C.yld id (as.map (Opd.evT t)) s
      | _ => none
    else some (.undef, s)
  | _ => fun _ _ => none
noncomputable def putK {α : Type} (d : Option Nat) (v : AV) (t : T) (k : T → α) : α :=
  match d with
  | some n => forceA v fun v => t.setK v n k
  | none => k t
noncomputable def evOpsT (C : CallF) (l : List IStmt) : T → St → Option (T × St) :=
  List.rec (fun t s => some (t, s)) (fun st _ ih => match st with
    | .chk d g o => fun t s => match evStT C (.op (some d) g o) t s with
      | some (v, s') => if AV.eqb v (t.get d) then ih t s' else none
      | none => none
    | .zero d ty cs => fun t s => if zeroAt s (t.get d) ty cs then ih t s else none
    | .op d g o => fun t s => match evStT C (.op d g o) t s with
      | some (v, s') => putK d v t fun t => ih t s'
      | none => none
    | .call d g c as => fun t s => match evStT C (.call d g c as) t s with
      | some (v, s') => putK d v t fun t => ih t s'
      | none => none) l
/-- The frame of so many temporaries that a tree stands for. -/
noncomputable def T.list (t : T) (n : Nat) : List AV := (List.range n).map t.get

abbrev RecT := ICode → Nat → T → List D → St → Option (X × T × List D × St)

noncomputable def evRangeT (E : Env) (C : CallF) (N : Nat) (t : T) (ds : List D) (s : St) (f : AV) (ps : List Nat) (a b : ICode) : Option (X × T × List D × St) :=
  if inRound ds then none
  else match f with
    | .fn g first captured => match E.sp g with
      | some _ => none
      | none => match C.enter g (first ++ (.yld (s.next + 1) :: captured)) ((s.add .dfr).add (.loop (t.list N) ps a b .ready)) with
      | some (_, s1) => match look s1.objs (s.next + 1) with
        | some (.loop _ _ _ _ .ready) => some (.normal, t, .mark s.next :: ds, s1.del (s.next + 1))
        | some (.loop _ _ _ _ (.done x)) => some (x, t, .mark s.next :: ds, s1.del (s.next + 1))
        | _ => none
      | none => none
    | _ => none

noncomputable def stepT (E : Env) (C : CallF) (rec : RecT) : RecT
  | .skip => fun _ fr ds s => some (.normal, fr, ds, s)
  | .reg ss => fun _ fr ds s => match evOpsT C ss fr s with
    | some (fr', s') => some (.normal, fr', ds, s')
    | none => none
  | .seq a b => fun N fr ds s => match rec a N fr ds s with
    | some (.normal, fr', ds', s') => rec b N fr' ds' s'
    | r => r
  | .cond c a b => fun N fr ds s => match c.evT fr with
    | .bool true => rec a N fr ds s
    | .bool false => rec b N fr ds s
    | _ => none
  | .block id b => fun N fr ds s => match rec b N fr ds s with
    | some (.exit i, fr', ds', s') => if i = id then some (.normal, fr', ds', s') else some (.exit i, fr', ds', s')
    | r => r
  | .loop b => fun N fr ds s => match rec b N fr ds s with
    | some (.normal, fr', ds', s') => rec (.loop b) N fr' ds' s'
    | r => r
  | .exit id => fun _ fr ds s => some (.exit id, fr, ds, s)
  | .ret => fun _ fr ds s => some (.ret, fr, ds, s)
  | .rfunc f ps a b => fun N fr ds s => evRangeT E C N fr ds s (f.evT fr) ps a b
  | .dfr ss c as => fun _ fr ds s => if inRound ds then none else match evOpsT C ss fr s with
    | some (fr', s') => match c.evT fr' with
      | .fn f a b => some (.normal, fr', .call (.fn f a b) (as.map (Opd.evT fr')) :: ds, s')
      | _ => none
    | none => none

noncomputable def T.fill {α : Type} (l : List AV) : Nat → T → (T → α) → α :=
  List.rec (motive := fun _ => Nat → T → (T → α) → α) (fun _ t k => k t) (fun a _ ih i t k => t.setK a i fun t => ih (i + 1) t k) l

noncomputable def resVT (t : T) (s : St) (l : List Res) : Option (List AV) :=
  List.rec (some []) (fun r _ ih => match r with
    | .tmp n => match ih with
      | some l => some (t.get n :: l)
      | none => none
    | .cell n k => match cellsAt s.objs (t.get n) with
      | some cs => match take k cs with
        | some v => match ih with
          | some l => some (v :: l)
          | none => none
        | none => none
      | none => none) l

noncomputable def outsT (fi : IFunc) (base : Nat) (t : T) (s : St) : Option (AV × St) :=
  match resVT t s fi.res with
  | some vs => some (if fi.dem then demC (packR vs) else packR vs, ⟨drop fi.keep base s.objs, s.next⟩)
  | none => none

/-- A depth with room for so many. -/
def depth (n : Nat) : Nat := Nat.log2 n + 1

noncomputable def frameT {α : Type} (n : Nat) (args : List AV) (k : T → α) : α := T.fill args 0 (T.mk (depth n)) k

noncomputable def finish0T (fi : IFunc) (base : Nat) (r : Option (X × T × List D × St)) : Option (AV × St) :=
  match r with
  | some (x, t, ds, s) =>
    match ds with
    | [] => match x with
      | .exit _ => none
      | _ => outsT fi base t s
    | _ => none
  | none => none

noncomputable def evCall0T (E : Env) (rec : RecT) (f : Nat) (args : List AV) (s : St) : Option (AV × St) :=
  match E.fn f with
  | some fi => if args.length ≤ fi.ntmps then frameT fi.ntmps args fun t => finish0T fi s.next (rec fi.body fi.ntmps t [] s) else none
  | none => none

noncomputable def runDT (E : Env) (rec : RecT) (l : List D) : St → Option St :=
  List.rec (fun s => some s) (fun d _ ih => match d with
    | .rd => fun _ => none
    | .mark id => fun s => match look s.objs id with
      | some .dfr => ih (s.del id)
      | _ => none
    | .call v args => fun s => match v with
      | .fn f first captured => match (match E.dsp f with
          | some h => h (first ++ (args ++ captured)) s
          | none => match evCall0T E rec f (first ++ (args ++ captured)) s with
            | some (_, s') => some s'
            | none => none) with
        | some s' => ih s'
        | none => none
      | _ => none) l

noncomputable def finishT (E : Env) (rec : RecT) (fi : IFunc) (base : Nat) (r : Option (X × T × List D × St)) : Option (AV × St) :=
  match r with
  | some (x, t, ds, s) =>
    match x with
    | .exit _ => none
    | _ => match runDT E rec ds s with
      | some s' => outsT fi base t s'
      | none => none
  | none => none

noncomputable def evCallFT (E : Env) (rec : RecT) (f : Nat) (args : List AV) (s : St) : Option (AV × St) :=
  match E.fn f with
  | some fi => if args.length ≤ fi.ntmps then frameT fi.ntmps args fun t => finishT E rec fi s.next (rec fi.body fi.ntmps t [] s) else none
  | none => none

noncomputable def evCallT (E : Env) (rec : RecT) (f : Nat) (args : List AV) (s : St) : Option (AV × St) :=
  match E.sp f with
  | some h => match h args s with
    | some r => some r
    | none => evCallFT E rec f args s
  | none => evCallFT E rec f args s

noncomputable def yieldT (rec : RecT) (id N : Nat) (b : ICode) (r : Option (X × T × List D × St)) : Option (AV × St) :=
  match r with
  | some (.normal, t1, _, s1) => match look s1.objs id with
    | some (.loop fr1' ps1 a1 b1 .ready) => match rec b N t1 [.rd] (s1.set id (.loop fr1' ps1 a1 b1 .busy)) with
      | some (x, _, _, s2) => match look s2.objs id with
        | some (.loop fr2 ps2 a2 b2 .busy) => match x with
          | .normal => some (.bool true, s2.set id (.loop fr2 ps2 a2 b2 .ready))
          | _ => some (.bool false, s2.set id (.loop fr2 ps2 a2 b2 (.done x)))
        | _ => none
      | none => none
    | _ => none
  | _ => none

noncomputable def evYieldT (rec : RecT) (id : Nat) (args : List AV) (s : St) : Option (AV × St) :=
  match look s.objs id with
  | some (.loop fr ps a b .ready) =>
    if args.length = ps.length ∧ a.dstLt fr.length ∧ b.dstLt fr.length then frameT fr.length (setPs fr ps args) fun t => yieldT rec id fr.length b (rec a fr.length t [.rd] s) else none
  | _ => none

noncomputable def evT (E : Env) (n : Nat) : RecT := Nat.rec (fun _ _ _ _ _ => none) (fun _ ih => stepT E ⟨evCallT E ih, evYieldT ih, evCallFT E ih⟩ ih) n

/-! It is the same -/

section
variable {fr : List AV} {s s' : St}

theorem fillsG_eq : ∀ {ps : List (Nat × Nat × Opd)} {cs : List AV}, fillsG cs (Opd.ev fr) ps = fills cs fr ps
  | [], _ => rfl
  | (o, z, x) :: r, cs => by
    simp only [fillsG, fills]
    split
    · cases put cs o (Opd.ev fr x).cells with
      | none => rfl
      | some cs' => exact fillsG_eq
    · rfl
theorem fillEG_eq {sz : Nat} : ∀ {ps : List (Nat × Opd)} {cs : List AV}, fillEG sz cs (Opd.ev fr) ps = fillE sz cs fr ps
  | [], _ => rfl
  | (o, x) :: r, cs => by
    simp only [fillEG, fillE]
    split
    · exact fillEG_eq
    · rfl
theorem evMxG_eq {mx : Bool} {k : IntKind} : ∀ {xs : List Opd} {a : Int}, evMxG mx k a (Opd.ev fr) xs = evMx mx k a fr xs
  | [], _ => rfl
  | x :: r, a => by
    simp only [evMxG, evMx]
    cases x.ev fr <;> first | rfl | exact evMxG_eq
theorem boundsG_eq {n : Nat} {lo hi : Option Opd} : boundsG (Opd.ev fr) n lo hi = bounds fr n lo hi := by
  cases lo <;> cases hi <;> rfl

theorem evOpG_eq (io : IOp) : evOpG io (Opd.ev fr) s = evOp fr s io := by
  cases io
  case build z ps => simp only [evOpG, evOp, fillsG_eq]; cases fills z fr ps <;> rfl
  case mksl tag ty sz z n ps =>
    simp only [evOpG, evOp, fillEG_eq]
    split
    · cases fillE sz (List.replicate n z) fr ps <;> rfl
    · rfl
  case mx m x xs =>
    simp only [evOpG, evOp, evMxG_eq]
    cases x.ev fr <;> first | rfl | (rename_i k a; cases evMx m k a fr xs <;> rfl)
  case slstr x lo hi =>
    simp only [evOpG, evOp, boundsG_eq]
    cases x.ev fr <;> first | rfl | (rename_i b; cases bounds fr b.length lo hi <;> rfl)
  case slsl sz x lo hi =>
    simp only [evOpG, evOp, boundsG_eq]
    cases x.ev fr <;> first | rfl | (cases bounds fr 0 lo hi <;> rfl) | (rename_i g z xs; split; (cases bounds fr xs.length lo hi <;> rfl); rfl) | (rename_i i o l z; split; (cases bounds fr l lo hi <;> rfl); rfl)
  case slarr n sz x lo hi =>
    simp only [evOpG, evOp, boundsG_eq]
    cases x.ev fr <;> first | rfl | (cases bounds fr n lo hi <;> rfl)
  all_goals rfl

/-- A tree stands for a frame. -/
def TRep (t : T) (fr : List AV) : Prop := ∀ i, t.get i = fr.getD i .undef

theorem evT_eq {t : T} (h : TRep t fr) : Opd.evT t = Opd.ev fr := by
  funext x
  cases x <;> simp only [Opd.evT, Opd.ev]
  exact h _

theorem forceA_eq {α : Type} (v : AV) (f : AV → α) : forceA v f = f v := by
  unfold forceA
  split
  · rename_i k n; cases n with
    | ofNat m => cases m <;> rfl
    | negSucc m => cases m <;> rfl
  · rename_i b; cases b <;> rfl
  · rfl

/-- All paths of a tree have one length. -/
def T.deep : T → Nat → Prop
  | .leaf _, d => d = 0
  | .node l r, d => ∃ e, d = e + 1 ∧ l.deep e ∧ r.deep e

theorem setK_eq {α : Type} (v : AV) : ∀ (t : T) (n d : Nat) (k : T → α), t.deep d → n < 2 ^ d → ∃ t', t.setK v n k = k t' ∧ t'.deep d ∧ ∀ i, t'.get i = if i = n then v else t.get i
  | .leaf u, n, d, k, hd, hn => by
    simp only [T.deep] at hd; subst hd
    have : n = 0 := by simpa using hn
    subst this
    refine ⟨.leaf v, rfl, rfl, fun i => ?_⟩
    cases i with
    | zero => rfl
    | succ i => simp; rfl
  | .node l r, n, d, k, hd, hn => by
    obtain ⟨e, rfl, h1, h2⟩ := hd
    have hlt : n / 2 < 2 ^ e := by rw [Nat.pow_succ] at hn; omega
    have hg : ∀ (a b : T) (i : Nat), (T.node a b).get i = if i % 2 = 0 then a.get (i / 2) else b.get (i / 2) := by
      intro a b i
      show @Nat.rec (fun _ => AV) (a.get (i / 2)) (fun _ _ => b.get (i / 2)) (i % 2) = _
      generalize i % 2 = m
      cases m
      · rfl
      · rfl
    have hs : (T.node l r).setK v n k = if n % 2 = 0 then l.setK v (n / 2) (fun l => k (.node l r)) else r.setK v (n / 2) (fun r => k (.node l r)) := by
      show @Nat.rec (fun _ => α) (l.setK v (n / 2) fun l => k (.node l r)) (fun _ _ => r.setK v (n / 2) fun r => k (.node l r)) (n % 2) = _
      generalize n % 2 = m
      cases m
      · rfl
      · rfl
    by_cases hm : n % 2 = 0
    · obtain ⟨l', e1, e2, e3⟩ := setK_eq v l (n / 2) e (fun l => k (.node l r)) h1 hlt
      refine ⟨.node l' r, by rw [hs, if_pos hm, e1], ⟨e, rfl, e2, h2⟩, fun i => ?_⟩
      rw [hg, hg, e3]
      by_cases hi : i % 2 = 0
      · simp only [hi, if_true]
        by_cases hin : i = n
        · subst hin; simp
        · have : ¬ i / 2 = n / 2 := by omega
          simp [hin, this]
      · have : ¬ i = n := by omega
        simp [hi, this]
    · obtain ⟨r', e1, e2, e3⟩ := setK_eq v r (n / 2) e (fun r => k (.node l r)) h2 hlt
      refine ⟨.node l r', by rw [hs, if_neg hm, e1], ⟨e, rfl, h1, e2⟩, fun i => ?_⟩
      rw [hg, hg, e3]
      by_cases hi : i % 2 = 0
      · have : ¬ i = n := by omega
        simp [hi, this]
      · simp only [hi, if_false]
        by_cases hin : i = n
        · subst hin; simp
        · have : ¬ i / 2 = n / 2 := by omega
          simp [hin, this]

end
end Go.Am

/- The evaluation with trees is the evaluation. Short words for the code of functions; a table of functions. -/
import Derived.Test.YtjacmplknlploaaGreatDoorW09
set_option linter.all false
namespace Go.Am

/-- A tree stands for a frame of so many temporaries. -/
structure Sim (d N : Nat) (t : T) (fr : List AV) : Prop where
  rep : TRep t fr
  deep : t.deep d
  len : fr.length = N
  room : N ≤ 2 ^ d

section
variable {E : Env} {fr : List AV} {s s' : St} {t t' : T} {d N : Nat} {C : CallF} {rec : Rec}

theorem Sim.wanted (h : Sim d N t fr) (g : Option (Nat × Bool)) : wantedT t g = wanted fr g := by
  cases g with
  | none => rfl
  | some p => obtain ⟨x, b⟩ := p; simp only [wantedT, Am.wanted, h.rep x]; cases fr.getD x .undef <;> rfl

theorem Sim.put {α : Type} (h : Sim d N t fr) {n : Nat} (hn : n < N) (v : AV) (k : T → α) : ∃ t', t.setK v n k = k t' ∧ Sim d N t' (fr.set n v) := by
  obtain ⟨t', h1, h2, h3⟩ := setK_eq v t n d k h.deep (Nat.lt_of_lt_of_le hn h.room)
  refine ⟨t', h1, fun i => ?_, h2, by simp [h.len], h.room⟩
  rw [h3, getD_set, h.len]
  by_cases hi : i = n
  · subst hi; simp [hn]
  · have : ¬ n = i := fun e => hi e.symm
    simp [hi, this, h.rep i]

/-- The calls are the same. -/
structure Same (E : Env) (rec : Rec) (C : CallF) : Prop where
  call : ∀ f args s r, C.call f args s = some r → evCall E rec f args s = some r
  yld : ∀ f args s r, C.yld f args s = some r → evYield rec f args s = some r
  enter : ∀ f args s r, C.enter f args s = some r → evCallF E rec f args s = some r

theorem evStT_eq (h : Sim d N t fr) {st : IStmt} {v : AV} (hc : Same E rec C) (he : evStT C st t s = some (v, s')) : evSt E rec fr s st = some (v, s') := by
  cases st with
  | op d' g o =>
    cases g with
    | none => simp only [evStT, evT_eq h.rep, evOpG_eq] at he; simpa [evSt, Am.wanted] using he
    | some p => obtain ⟨x, b⟩ := p; simp only [evStT, evT_eq h.rep, evOpG_eq, h.wanted] at he; simpa only [evSt] using he
  | call d' g c as =>
    simp only [evStT, evT_eq h.rep, h.wanted] at he
    simp only [evSt]
    split at he
    · rename_i hw
      rw [if_pos hw]
      split at he
      · rename_i f first captured hfn
        rw [hfn]
        exact hc.call _ _ _ _ he
      · rename_i id hfn
        rw [hfn]
        exact hc.yld _ _ _ _ he
      · cases he
    · rename_i hw; rw [if_neg hw]; exact he
  | chk => simp [evStT] at he
  | zero => simp [evStT] at he

theorem putK_eq {α : Type} (h : Sim d N t fr) {st : IStmt} (hd : st.dstLt N = true) (hp : st.plain = true) (v : AV) (k : T → α) : ∃ t', putK st.dst v t k = k t' ∧ Sim d N t' (setDst fr st.dst v) := by
  cases st with
  | op d' g o =>
    cases d' with
    | none => exact ⟨t, rfl, h⟩
    | some n =>
      obtain ⟨t', h1, h2⟩ := h.put (n := n) (by simpa [IStmt.dstLt] using hd) v k
      exact ⟨t', by simp only [IStmt.dst, putK, forceA_eq]; exact h1, h2⟩
  | call d' g c as =>
    cases d' with
    | none => exact ⟨t, rfl, h⟩
    | some n =>
      obtain ⟨t', h1, h2⟩ := h.put (n := n) (by simpa [IStmt.dstLt] using hd) v k
      exact ⟨t', by simp only [IStmt.dst, putK, forceA_eq]; exact h1, h2⟩
  | chk => cases hp
  | zero => cases hp

theorem evOpsT_sim (hc : Same E rec C) : ∀ {ss : List IStmt} {t : T} {fr : List AV} {s : St}, (ss.all fun st => st.dstLt N) = true → Sim d N t fr → evOpsT C ss t s = some (t', s') →
    ∃ fr', evOps E rec ss fr s = some (fr', s') ∧ Sim d N t' fr'
  | [], t, fr, s, _, h, he => by
    have he : some (t, s) = some (t', s') := he
    cases he
    exact ⟨fr, rfl, h⟩
  | st :: r, t, fr, s, hd, h, he => by
    simp only [List.all_cons, Bool.and_eq_true] at hd
    have plain : ∀ {st : IStmt} {r : List IStmt}, st.plain = true → st.dstLt N = true → (r.all fun st => st.dstLt N) = true → (match evStT C st t s with
        | some (v, s') => putK st.dst v t fun t => evOpsT C r t s'
        | none => none) = some (t', s') → (∀ {t : T} {fr : List AV} {s : St}, Sim d N t fr → evOpsT C r t s = some (t', s') → ∃ fr', evOps E rec r fr s = some (fr', s') ∧ Sim d N t' fr') →
        ∃ fr', evOps E rec (st :: r) fr s = some (fr', s') ∧ Sim d N t' fr' := by
      intro st r hp hd1 hd2 he ih
      split at he
      · rename_i v s1 hev
        obtain ⟨t1, h1, h2⟩ := putK_eq h hd1 hp v fun t => evOpsT C r t s1
        rw [h1] at he
        obtain ⟨fr', k1, k2⟩ := ih h2 he
        exact ⟨fr', by rw [evOps_cons hp, evStT_eq h hc hev]; exact k1, k2⟩
      · cases he
    have ih : ∀ {t : T} {fr : List AV} {s : St}, Sim d N t fr → evOpsT C r t s = some (t', s') → ∃ fr', evOps E rec r fr s = some (fr', s') ∧ Sim d N t' fr' := fun h he => evOpsT_sim hc hd.2 h he
    cases st with
    | op d' g o => exact plain rfl hd.1 hd.2 he ih
    | call d' g c as => exact plain rfl hd.1 hd.2 he ih
    | chk d' g o =>
      have he : (match evStT C (.op (some d') g o) t s with
        | some (v, s1) => if AV.eqb v (t.get d') then evOpsT C r t s1 else none
        | none => none) = some (t', s') := he
      split at he
      · rename_i v s1 hev
        have := evStT_eq h hc hev
        split at he
        · rename_i heq
          obtain ⟨fr', k1, k2⟩ := ih h he
          refine ⟨fr', ?_, k2⟩
          simp only [evOps, this]
          rw [h.rep d'] at heq
          rw [if_pos heq]; exact k1
        · cases he
      · cases he
    | zero d' ty cs =>
      have he : (if zeroAt s (t.get d') ty cs then evOpsT C r t s else none) = some (t', s') := he
      split at he
      · rename_i hz
        obtain ⟨fr', k1, k2⟩ := ih h he
        refine ⟨fr', ?_, k2⟩
        simp only [evOps]
        rw [h.rep d'] at hz
        rw [if_pos hz]; exact k1
      · cases he

/-- What is asked of the functions. -/
def DepOk (E : Env) : Prop := ∀ f fi, E.fn f = some fi → fi.body.dstLt fi.ntmps = true

theorem mk_get : ∀ (d i : Nat), (T.mk d).get i = .undef
  | 0, 0 => rfl
  | 0, i + 1 => rfl
  | d + 1, i => by
    show @Nat.rec (fun _ => AV) ((T.mk d).get (i / 2)) (fun _ _ => (T.mk d).get (i / 2)) (i % 2) = _
    generalize i % 2 = m
    cases m
    · exact mk_get d _
    · exact mk_get d _
theorem mk_deep : ∀ d, (T.mk d).deep d
  | 0 => rfl
  | d + 1 => ⟨d, rfl, mk_deep d, mk_deep d⟩

theorem fill_eq {α : Type} : ∀ (l : List AV) (i : Nat) (t : T) (fr : List AV) (k : T → α), Sim d N t fr → i + l.length ≤ N → ∃ t', T.fill l i t k = k t' ∧ Sim d N t' (fr.take i ++ (l ++ fr.drop (i + l.length)))
  | [], i, t, fr, k, h, hl => ⟨t, rfl, by simpa using h⟩
  | a :: l, i, t, fr, k, h, hl => by
    simp only [List.length_cons] at hl
    obtain ⟨t1, h1, h2⟩ := h.put (n := i) (by omega) a (fun t => T.fill l (i + 1) t k)
    obtain ⟨t2, h3, h4⟩ := fill_eq l (i + 1) t1 _ k h2 (by omega)
    refine ⟨t2, by show t.setK a i (fun t => T.fill l (i + 1) t k) = _; rw [h1, h3], ?_⟩
    have hi : i < fr.length := by rw [h.len]; omega
    have e1 : (fr.set i a).take (i + 1) = fr.take i ++ [a] := by
      rw [List.take_set, List.take_succ_eq_append_getElem hi, List.set_append_right _ _ (by simp; omega)]
      have : i - (fr.take i).length = 0 := by simp; omega
      rw [this]; rfl
    have e2 : (fr.set i a).drop (i + 1 + l.length) = fr.drop (i + (l.length + 1)) := by
      rw [List.drop_set_of_lt (by omega)]; congr 1; omega
    rw [e1, e2] at h4
    simpa using h4


theorem resVT_eq (h : Sim d N t fr) : ∀ {rs : List Res}, resVT t s rs = resV fr s rs
  | [] => rfl
  | .tmp n :: r => by
    show (match resVT t s r with | some l => some (t.get n :: l) | none => none) = _
    rw [resVT_eq h, h.rep n]
    simp only [resV]
    cases resV fr s r <;> rfl
  | .cell n k :: r => by
    show (match cellsAt s.objs (t.get n) with
      | some cs => match take k cs with
        | some v => match resVT t s r with
          | some l => some (v :: l)
          | none => none
        | none => none
      | none => none) = _
    rw [resVT_eq h, h.rep n]
    simp only [resV]
    cases cellsAt s.objs (fr.getD n .undef) with
    | none => rfl
    | some cs =>
      cases take k cs with
      | none => rfl
      | some v => cases resV fr s r <;> rfl

theorem T.list_eq (h : Sim d N t fr) : t.list N = fr := by
  apply List.ext_getElem?
  intro i
  simp only [T.list, List.getElem?_map, List.getElem?_range]
  have hr := h.rep i
  by_cases hi : i < N
  · have hi' : i < fr.length := by rw [h.len]; exact hi
    rw [List.getElem?_range hi]
    simp only [Option.map_some, hr, List.getD_eq_getElem?_getD]
    simp [hi']
  · have hi' : ¬ i < fr.length := by rw [h.len]; exact hi
    simp [hi, hi']

/-- A frame that is made. -/
theorem frameT_eq {α : Type} {n : Nat} {args : List AV} (hl : args.length ≤ n) (k : T → α) : ∃ t, frameT n args k = k t ∧ Sim (depth n) n t (args ++ List.replicate (n - args.length) .undef) := by
  have h0 : Sim (depth n) n (T.mk (depth n)) (List.replicate n .undef) :=
    ⟨fun i => by rw [mk_get]; simp only [List.getD_eq_getElem?_getD, List.getElem?_replicate]; split <;> rfl, mk_deep _, by simp, Nat.le_of_lt Nat.lt_log2_self⟩
  obtain ⟨t, e1, e2⟩ := fill_eq args 0 _ _ k h0 (by omega)
  have e3 : (List.replicate n AV.undef).take 0 ++ (args ++ (List.replicate n AV.undef).drop (0 + args.length)) = args ++ List.replicate (n - args.length) .undef := by simp
  rw [e3] at e2
  exact ⟨t, e1, e2⟩

theorem outsT_eq (h : Sim d N t fr) {fi : IFunc} {base : Nat} : outsT fi base t s = outs fi base fr s := by
  unfold outsT outs
  rw [resVT_eq h]
  cases resV fr s fi.res <;> rfl

/-- The code is the same. -/
def SimC (E : Env) (n : Nat) : Prop := ∀ (ic : ICode) (d N : Nat) (t : T) (fr : List AV) (ds : List D) (s : St) (x : X) (t' : T) (ds' : List D) (s' : St), ic.dstLt N = true → Sim d N t fr → evT E n ic N t ds s = some (x, t', ds', s') → ∃ fr', ev E n ic fr ds s = some (x, fr', ds', s') ∧ Sim d N t' fr'

theorem call0_sim (hD : DepOk E) {n : Nat} (hA : SimC E n) {f : Nat} {args : List AV} {r : AV × St} (he : evCall0T E (evT E n) f args s = some r) : evCall0 E (ev E n) f args s = some r := by
  unfold evCall0T at he
  unfold evCall0
  split at he
  case h_2 => cases he
  rename_i fi hfi
  rw [hfi]
  split at he
  case isFalse => cases he
  rename_i hlen
  obtain ⟨t, e1, e2⟩ := frameT_eq hlen (fun t => finish0T fi s.next (evT E n fi.body fi.ntmps t [] s))
  rw [e1] at he
  unfold finish0T at he
  split at he
  case h_2 => cases he
  rename_i x t1 ds1 s1 hev
  split at he
  case h_2 => cases he
  obtain ⟨fr1, k1, k2⟩ := hA fi.body _ _ t _ [] s x t1 [] s1 (hD f fi hfi) e2 hev
  simp only [frame0, k1, finish0]
  cases x with
  | exit i => cases he
  | normal => simp only [outsT_eq k2] at he; exact he
  | ret => simp only [outsT_eq k2] at he; exact he

theorem runD_sim (hD : DepOk E) {n : Nat} (hA : SimC E n) : ∀ {ds : List D} {s s' : St}, runDT E (evT E n) ds s = some s' → runD E (ev E n) ds s = some s'
  | [], s, s', he => he
  | .rd :: _, s, s', he => by cases he
  | .mark id :: ds, s, s', he => by
    have he : (match look s.objs id with
      | some .dfr => runDT E (evT E n) ds (s.del id)
      | _ => none) = some s' := he
    unfold runD
    split at he
    · rename_i hl; rw [hl]; exact runD_sim hD hA he
    · cases he
  | .call v args :: ds, s, s', he => by
    cases v with
    | fn f first captured =>
      have he : (match (match E.dsp f with
            | some h => h (first ++ (args ++ captured)) s
            | none => match evCall0T E (evT E n) f (first ++ (args ++ captured)) s with
              | some (_, s') => some s'
              | none => none) with
          | some s' => runDT E (evT E n) ds s'
          | none => none) = some s' := he
      unfold runD
      simp only
      split at he
      case h_2 => cases he
      rename_i s2 h2
      split at h2
      · rename_i hh hs
        rw [hs]
        simp only [h2]
        exact runD_sim hD hA he
      · rename_i hs
        rw [hs]
        split at h2
        · rename_i v2 s3 h0
          cases h2
          simp only [call0_sim hD hA h0]
          exact runD_sim hD hA he
        · cases h2
    | _ => cases he

theorem callF_sim (hD : DepOk E) {n : Nat} (hA : SimC E n) {f : Nat} {args : List AV} {r : AV × St} (he : evCallFT E (evT E n) f args s = some r) : evCallF E (ev E n) f args s = some r := by
  unfold evCallFT at he
  unfold evCallF
  split at he
  case h_2 => cases he
  rename_i fi hfi
  rw [hfi]
  split at he
  case isFalse => cases he
  rename_i hlen
  obtain ⟨t, e1, e2⟩ := frameT_eq hlen (fun t => finishT E (evT E n) fi s.next (evT E n fi.body fi.ntmps t [] s))
  rw [e1] at he
  unfold finishT at he
  split at he
  case h_2 => cases he
  rename_i x t1 ds1 s1 hev
  obtain ⟨fr1, k1, k2⟩ := hA fi.body _ _ t _ [] s x t1 ds1 s1 (hD f fi hfi) e2 hev
  simp only [frame0, k1, finish]
  cases x with
  | exit i => cases he
  | normal =>
    simp only at he ⊢
    split at he
    · rename_i s2 hd; rw [runD_sim hD hA hd]; simp only [← outsT_eq k2]; exact he
    · cases he
  | ret =>
    simp only at he ⊢
    split at he
    · rename_i s2 hd; rw [runD_sim hD hA hd]; simp only [← outsT_eq k2]; exact he
    · cases he

theorem call_sim (hD : DepOk E) {n : Nat} (hA : SimC E n) {f : Nat} {args : List AV} {r : AV × St} (he : evCallT E (evT E n) f args s = some r) : evCall E (ev E n) f args s = some r := by
  unfold evCallT at he
  unfold evCall
  split at he
  · rename_i h hs
    rw [hs]
    split at he
    · rename_i q hq; simp only [hq]; exact he
    · rename_i hq; simp only [hq]; exact callF_sim hD hA he
  · rename_i hs; rw [hs]; exact callF_sim hD hA he

theorem setPs_length : ∀ {ps : List Nat} {as fr : List AV}, (setPs fr ps as).length = fr.length
  | [], _, _ => by simp [setPs]
  | _ :: _, [], _ => by simp [setPs]
  | p :: ps, a :: as, fr => by simp only [setPs]; rw [setPs_length]; simp

theorem yield_sim {n : Nat} (hA : SimC E n) {id : Nat} {args : List AV} {r : AV × St} (he : evYieldT (evT E n) id args s = some r) : evYield (ev E n) id args s = some r := by
  unfold evYieldT at he
  unfold evYield
  split at he
  case h_2 => cases he
  rename_i fr ps a b hlk
  rw [hlk]
  split at he
  case isFalse => cases he
  rename_i hc
  obtain ⟨hlen, ha, hb⟩ := hc
  simp only
  rw [if_pos hlen]
  have hl : (setPs fr ps args).length ≤ fr.length := Nat.le_of_eq setPs_length
  obtain ⟨t, e1, e2⟩ := frameT_eq hl (fun t => yieldT (evT E n) id fr.length b (evT E n a fr.length t [.rd] s))
  rw [e1] at he
  have e3 : setPs fr ps args ++ List.replicate (fr.length - (setPs fr ps args).length) .undef = setPs fr ps args := by rw [setPs_length]; simp
  rw [e3] at e2
  unfold yieldT at he
  split at he
  case h_2 => cases he
  rename_i t1 ds1 s1 hev1
  obtain ⟨fr1, k1, k2⟩ := hA a _ _ t _ _ s _ t1 ds1 s1 ha e2 hev1
  rw [k1]
  simp only
  split at he
  case h_2 => cases he
  rename_i fr1' ps1 a1 b1 hlk1
  rw [hlk1]
  simp only
  split at he
  case h_2 => cases he
  rename_i x t2 ds2 s2 hev2
  obtain ⟨fr2, m1, m2⟩ := hA b _ _ t1 _ _ _ x t2 ds2 s2 hb k2 hev2
  rw [m1]
  exact he

theorem same_sim (hD : DepOk E) {n : Nat} (hA : SimC E n) : Same E (ev E n) ⟨evCallT E (evT E n), evYieldT (evT E n), evCallFT E (evT E n)⟩ :=
  ⟨fun _ _ _ _ he => call_sim hD hA he, fun _ _ _ _ he => yield_sim hA he, fun _ _ _ _ he => callF_sim hD hA he⟩

theorem evT_sim (hD : DepOk E) : ∀ n, SimC E n := by
  intro n
  induction n with
  | zero => intro ic d N t fr ds s x t' ds' s' _ _ he; cases he
  | succ n hC =>
    have hK := same_sim hD hC
    intro ic d N t fr ds s x t' ds' s' hdl h he
    have he : stepT E ⟨evCallT E (evT E n), evYieldT (evT E n), evCallFT E (evT E n)⟩ (evT E n) ic N t ds s = some (x, t', ds', s') := he
    simp only [ev]
    cases ic with
    | skip => cases he; exact ⟨fr, rfl, h⟩
    | reg ss =>
      simp only [stepT] at he
      simp only [step]
      split at he
      · rename_i t1 s1 hev
        cases he
        obtain ⟨fr1, k1, k2⟩ := evOpsT_sim hK hdl h hev
        exact ⟨fr1, by rw [k1], k2⟩
      · cases he
    | seq a b =>
      simp only [ICode.dstLt, Bool.and_eq_true] at hdl
      simp only [stepT] at he
      simp only [step]
      split at he
      · rename_i t1 ds1 s1 h1
        obtain ⟨fr1, k1, k2⟩ := hC a d N t fr ds s _ _ _ _ hdl.1 h h1
        obtain ⟨fr2, k3, k4⟩ := hC b d N t1 fr1 ds1 s1 _ _ _ _ hdl.2 k2 he
        exact ⟨fr2, by rw [k1]; exact k3, k4⟩
      · rename_i hne
        obtain ⟨fr1, k1, k2⟩ := hC a d N t fr ds s _ _ _ _ hdl.1 h he
        refine ⟨fr1, ?_, k2⟩
        rw [k1]
        cases x with
        | normal => exact absurd he (hne t' ds' s')
        | exit id => rfl
        | ret => rfl
    | cond c a b =>
      simp only [ICode.dstLt, Bool.and_eq_true] at hdl
      simp only [stepT, evT_eq h.rep] at he
      simp only [step]
      split at he
      · rename_i e1; rw [e1]; exact hC a d N t fr ds s _ _ _ _ hdl.1 h he
      · rename_i e1; rw [e1]; exact hC b d N t fr ds s _ _ _ _ hdl.2 h he
      · cases he
    | block id b =>
      simp only [ICode.dstLt] at hdl
      simp only [stepT] at he
      simp only [step]
      split at he
      · rename_i i t1 ds1 s1 h1
        obtain ⟨fr1, k1, k2⟩ := hC b d N t fr ds s _ _ _ _ hdl h h1
        rw [k1]
        split at he
        · rename_i e; cases he; exact ⟨fr1, by simp only [e, if_true], k2⟩
        · rename_i e; cases he; exact ⟨fr1, by simp only [e, if_false], k2⟩
      · rename_i hne
        obtain ⟨fr1, k1, k2⟩ := hC b d N t fr ds s _ _ _ _ hdl h he
        refine ⟨fr1, ?_, k2⟩
        rw [k1]
        cases x with
        | normal => rfl
        | exit i => exact absurd he (hne i t' ds' s')
        | ret => rfl
    | loop b =>
      have hdb := hdl
      simp only [ICode.dstLt] at hdl
      simp only [stepT] at he
      simp only [step]
      split at he
      · rename_i t1 ds1 s1 h1
        obtain ⟨fr1, k1, k2⟩ := hC b d N t fr ds s _ _ _ _ hdl h h1
        obtain ⟨fr2, k3, k4⟩ := hC (.loop b) d N t1 fr1 ds1 s1 _ _ _ _ hdb k2 he
        exact ⟨fr2, by rw [k1]; exact k3, k4⟩
      · rename_i hne
        obtain ⟨fr1, k1, k2⟩ := hC b d N t fr ds s _ _ _ _ hdl h he
        refine ⟨fr1, ?_, k2⟩
        rw [k1]
        cases x with
        | normal => exact absurd he (hne t' ds' s')
        | exit i => rfl
        | ret => rfl
    | exit id => cases he; exact ⟨fr, rfl, h⟩
    | ret => cases he; exact ⟨fr, rfl, h⟩
    | rfunc f ps a b =>
      simp only [stepT, evT_eq h.rep] at he
      simp only [step]
      unfold evRangeT at he
      unfold evRange
      split at he
      · cases he
      rename_i hnr
      rw [if_neg hnr]
      split at he
      case h_2 => cases he
      rename_i g first captured hfn
      rw [hfn]
      simp only
      split at he
      · cases he
      rename_i hsp
      rw [hsp]
      simp only
      rw [T.list_eq h] at he
      split at he
      case h_2 => cases he
      rename_i u s1 hcall
      rw [hK.enter _ _ _ _ hcall]
      simp only
      split at he
      · rename_i hl; rw [hl]; cases he; exact ⟨fr, rfl, h⟩
      · rename_i x0 hl; rw [hl]; cases he; exact ⟨fr, rfl, h⟩
      · cases he
    | dfr ss c as =>
      simp only [stepT] at he
      simp only [step]
      split at he
      · cases he
      rename_i hnr
      rw [if_neg hnr]
      split at he
      case h_2 => cases he
      rename_i t1 s1 hev
      obtain ⟨fr1, k1, k2⟩ := evOpsT_sim hK hdl h hev
      rw [k1]
      simp only [evT_eq k2.rep] at he ⊢
      split at he
      · rename_i f x y hfn; rw [hfn]; cases he; exact ⟨fr1, rfl, k2⟩
      · cases he

/-- What the kernel works out is a call's result. -/
theorem callsTo_of_fast (hD : DepOk E) {n f : Nat} {args : List AV} {v : AV} (h : evCallT E (evT E n) f args s = some (v, s')) : CallsTo E f args s v s' :=
  ⟨n, call_sim hD (evT_sim hD n) h⟩

end
end Go.Am

namespace Go.Am
namespace L
def o (d : Nat) (x : IOp) : IStmt := .op (some d) none x
def m (d t : Nat) : IStmt := .op (some d) none (.mov (.t t))
def k (d f : Nat) (l : List Opd) : IStmt := .call (some d) none (.f f) l
def u (n a v : Nat) : IStmt := .op none none (.store n (.t a) (.t v))
def i (n : Int) : AV := .int .i64 n
def c (n : Int) : Opd := .c (.int .i64 n)
def l (d t : Nat) : IStmt := .op (some d) none (.load none (.t t))
def a (d z t : Nat) : IStmt := .op (some d) none (.load (some z) (.t t))
def f (d p t : Nat) : IStmt := .op (some d) none (.fld p (.t t))
def e (d t i : Nat) : IStmt := .op (some d) none (.ext (.t t) i)
def n (d t : Nat) : IStmt := .op (some d) none (.nilchk (.t t))
def g (d t : Nat) (b : Bool) (x : IOp) : IStmt := .op (some d) (some (t, b)) x
def q (a b : ICode) : ICode := .seq a b
def r (l : List IStmt) : ICode := .reg l
def w (l : List IStmt) (x : ICode) : ICode := .seq (.reg l) x
def t (n : Nat) : Opd := .t n
def b (n : Int) : AV := .int .u8 n
def B (t : Nat) (l : List Int) : AV := .sl t 1 (l.map b)
def d (t : Nat) (a b : ICode) : ICode := .cond (.t t) a b
def cf : Opd := .c (.bool false)
def ct : Opd := .c (.bool true)
def cs : Opd := .c (.str [])
end L

/-- What a function of the program is lowered to. -/
def lowFn (P : Program) (ng : Nat) (fl : Nat → Nat) (fn : Func) : Option (Nat × ICode × List Res × Bool × Bool) :=
  fn.body.bind fun c => (low P ng fl c).bind fun ic => (lowR P fn.results.toList).map fun rs => (fn.ntmps, ic, rs, fn.name == "runtime.NumGoroutine", ic.dstLt fn.ntmps)

def IFunc.five (f : IFunc) : Nat × ICode × List Res × Bool × Bool := (f.ntmps, f.body, f.res, false, true)

def fl1 (_ : Nat) : Nat := 1
def flA (_ : Nat) : Nat := 2
def flT (k t : Nat) : Nat := bif Nat.beq t k then 2 else 1

/-- A table. -/
inductive Tr where
  | leaf
  | node (k : Nat) (v : IFunc) (l r : Tr)

def Tr.get : Tr → Nat → Option IFunc
  | .leaf, _ => none
  | .node k v l r, i => bif Nat.beq i k then some v else bif Nat.blt i k then l.get i else r.get i

def Tr.All (Q : Nat → IFunc → Prop) : Tr → Prop
  | .leaf => True
  | .node k v l r => Q k v ∧ l.All Q ∧ r.All Q

theorem Tr.get_all {Q : Nat → IFunc → Prop} : ∀ {t : Tr} {i : Nat} {v : IFunc}, t.All Q → t.get i = some v → Q i v
  | .leaf, _, _, _, h => by cases h
  | .node k x l r, i, v, ⟨h1, h2, h3⟩, h => by
    simp only [Tr.get] at h
    cases hk : Nat.beq i k with
    | true => rw [hk] at h; cases h; rw [Nat.eq_of_beq_eq_true hk]; exact h1
    | false =>
      rw [hk] at h
      cases hb : Nat.blt i k with
      | true => rw [hb] at h; exact Tr.get_all h2 h
      | false => rw [hb] at h; exact Tr.get_all h3 h

end Go.Am

/- The shell's state: Encode. The shell's state: Equal. The shell's state: reading it. -/
import Derived.Test.YtjacmplknlploaaGreatDoorW15
set_option linter.all false
namespace Go.Am
open T
attribute [local irreducible] Wp WpO Cal Rt Then Blocked Slc Lq Jq upd' φ0 lst

variable {kn : List AV → St → Option (AV × St)}

def encT (t : List Nat) : List Nat := encN t.length ++ t
def encV (x : List Nat × List Nat) : List Nat := encT x.1 ++ encT x.2
def encP (x : Int × List Nat) : List Nat := encN x.1.toNat ++ encT x.2
def encK (n : Int) : List Nat := encN n.toNat
def Sh.enc (x : Sh) : List Nat :=
  encN x.vars.length ++ x.vars.flatMap encV ++ encN x.status.toNat ++ encN x.lines.length ++ x.lines.flatMap encT ++ encN x.parts.length ++ x.parts.flatMap encP ++ [if x.bg then 1 else 0] ++ encN x.kids.length ++ x.kids.flatMap encK

def B256 (l : List Nat) : Prop := ∀ c ∈ l, c < 256
structure Sh.ok (x : Sh) : Prop where
  v : ∀ y ∈ x.vars, B256 y.1 ∧ B256 y.2
  l : ∀ y ∈ x.lines, B256 y
  p : ∀ y ∈ x.parts, B256 y.2

theorem B256.append {a b : List Nat} (h1 : B256 a) (h2 : B256 b) : B256 (a ++ b) := fun c hc => by
  rcases List.mem_append.1 hc with h | h
  · exact h1 c h
  · exact h2 c h
theorem B256.flat {α : Type} {l : List α} {f : α → List Nat} (h : ∀ x ∈ l, B256 (f x)) : B256 (l.flatMap f) := fun c hc => by
  obtain ⟨x, h1, h2⟩ := List.mem_flatMap.1 hc
  exact h x h1 c h2
theorem B256.encT {t : List Nat} (h : B256 t) : B256 (Am.encT t) := B256.append (encN_lt _) h

theorem Sh.ok.enc {x : Sh} (h : x.ok) : B256 x.enc := by
  unfold Sh.enc
  refine B256.append (B256.append (B256.append (B256.append (B256.append (B256.append (B256.append (B256.append (B256.append (encN_lt _) ?_) (encN_lt _)) (encN_lt _)) ?_) (encN_lt _)) ?_) ?_) (encN_lt _)) ?_
  · exact B256.flat fun y hy => (h.v y hy).1.encT.append (h.v y hy).2.encT
  · exact B256.flat fun y hy => (h.l y hy).encT
  · exact B256.flat fun y hy => B256.append (encN_lt _) (h.p y hy).encT
  · intro c hc; rw [List.mem_singleton] at hc; subst hc; cases x.bg <;> decide
  · exact B256.flat fun y hy => encN_lt _

theorem fm_take {α : Type} {l : List α} {f : α → List Nat} {i : Nat} {x : α} (h : l[i]? = some x) : (l.take (i + 1)).flatMap f = (l.take i).flatMap f ++ f x := by
  simp [List.take_add_one, h]
theorem fm_len {α : Type} (l : List α) (f : α → List Nat) (i : Nat) : ((l.take i).flatMap f).length ≤ (l.flatMap f).length := by
  have e : l.flatMap f = (l.take i).flatMap f ++ (l.drop i).flatMap f := by rw [← List.flatMap_append, List.take_append_drop]
  rw [e, List.length_append]; omega
theorem fm_bound {α : Type} {l : List α} {f : α → List Nat} {m : Nat} (h : ∀ x ∈ l, (f x).length ≤ m) : (l.flatMap f).length ≤ l.length * m := by
  induction l with
  | nil => simp
  | cons x r ih =>
    have h1 := h x (by simp)
    have h2 := ih fun y hy => h y (by simp [hy])
    rw [List.flatMap_cons, List.length_append, List.length_cons, Nat.succ_mul]
    omega

theorem chkV_mem : ∀ {p : Option (List Nat)} {vs : List (List Nat × List Nat)}, chkV p vs = 0 → ∀ y ∈ vs, isVar y.1 = true ∧ y.1 ≠ stN ∧ y.2.length ≤ 256
  | _, [], _, y, hy => by cases hy
  | p, (n, v) :: r, h, y, hy => by
    rw [chkV] at h
    split at h
    · cases h
    rename_i h1
    split at h
    · cases h
    rename_i h2
    split at h
    · cases h
    rcases List.mem_cons.1 hy with rfl | hy
    · refine ⟨?_, fun e => h1 (.inr e), by simp only; omega⟩
      cases hv : isVar n
      · exact absurd (.inl hv) h1
      · rfl
    · exact chkV_mem h y hy
theorem firstE_mem {α : Type} {f : α → Int} : ∀ {l : List α}, firstE f l = 0 → ∀ y ∈ l, f y = 0
  | [], _, y, hy => by cases hy
  | x :: r, h, y, hy => by
    rw [firstE] at h
    split at h
    · rename_i h0
      rcases List.mem_cons.1 hy with rfl | hy
      · exact h0
      · exact firstE_mem h y hy
    · rename_i h0; exact absurd h h0
theorem isVar_len {n : List Nat} (h : isVar n = true) : n.length ≤ 16 := by
  cases n with
  | nil => simp
  | cons c r =>
    simp only [isVar, Bool.and_eq_true, decide_eq_true_eq] at h
    exact h.1

/-- What a good state is. -/
structure Sh.good (x : Sh) : Prop where
  nv : x.vars.length ≤ 32
  v : ∀ y ∈ x.vars, isVar y.1 = true ∧ y.1 ≠ stN ∧ y.2.length ≤ 256
  st : 0 ≤ x.status ∧ x.status ≤ 999
  nl : x.lines.length ≤ 1024
  sl : sumL x.lines ≤ 16384
  l : ∀ y ∈ x.lines, y ≠ [] ∧ 10 ∉ y
  np : x.parts.length ≤ 16
  p : ∀ y ∈ x.parts, 0 ≤ y.1 ∧ y.1 ≤ 2 ∧ y.2 ≠ [] ∧ y.2.length ≤ 1024
  bg : x.bg = true → x.parts ≠ []
  nk : x.kids.length ≤ 8
  k : ∀ y ∈ x.kids, 1 ≤ y ∧ y ≤ 999999

theorem Sh.good_of {x : Sh} (h : x.check = 0) : x.good := by
  unfold Sh.check at h
  split at h
  · rename_i h1; exact absurd h h1
  rename_i h1
  have h1 : chkVars x.vars = 0 := by simpa using h1
  split at h
  · cases h
  rename_i h2
  split at h
  · rename_i h3; exact absurd h h3
  rename_i h3
  have h3 : chkLines x.lines = 0 := by simpa using h3
  split at h
  · rename_i h4; exact absurd h h4
  rename_i h4
  have h4 : chkParts x.parts x.bg = 0 := by simpa using h4
  split at h
  · cases h
  rename_i h5
  split at h
  · cases h
  rename_i h6
  unfold chkVars at h1
  split at h1
  · cases h1
  rename_i h7
  unfold chkLines at h3
  split at h3
  · cases h3
  rename_i h8
  split at h3
  · cases h3
  rename_i h9
  unfold chkParts at h4
  split at h4
  · cases h4
  rename_i h10
  split at h4
  · rename_i h11
    split at h4
    · cases h4
    rename_i h12
    refine ⟨by omega, chkV_mem h1, by omega, by omega, by omega, ?_, by omega, ?_, ?_, by omega, ?_⟩
    · intro y hy
      constructor
      · intro e; exact h9 (List.any_eq_true.2 ⟨y, hy, by simp [badL, e]⟩)
      · intro e; exact h9 (List.any_eq_true.2 ⟨y, hy, by simp [badL, e]⟩)
    · intro y hy
      have := firstE_mem h11 y hy
      unfold errP at this
      split at this
      · cases this
      split at this
      · cases this
      rename_i e
      split at this
      · cases this
      exact ⟨by omega, by omega, e, by omega⟩
    · intro hb e; exact h12 ⟨hb, by rw [e]; rfl⟩
    · intro y hy
      cases hbk : badK y with
      | true => exact absurd (List.any_eq_true.2 ⟨y, hy, hbk⟩) h6
      | false => simp [badK] at hbk; omega
  · rename_i h11; exact absurd h4 h11

theorem encN_two {u : Nat} (h : u < 16384) : (encN u).length ≤ 2 := encN_len 1 u h
theorem encN_three {u : Nat} (h : u < 2097152) : (encN u).length ≤ 3 := encN_len 2 u h
theorem mem_sumL {l : List (List Nat)} {y : List Nat} (h : y ∈ l) : y.length ≤ sumL l := by
  induction l with
  | nil => cases h
  | cons x r ih =>
    simp only [sumL, List.map_cons, List.sum_cons] at ih ⊢
    rcases List.mem_cons.1 h with rfl | h
    · omega
    · have := ih h; omega

theorem Sh.good.enc_len {x : Sh} (h : x.good) : x.enc.length ≤ 20000000 := by
  have e1 : (x.vars.flatMap encV).length ≤ x.vars.length * 280 := fm_bound fun y hy => by
    have hy := h.v y hy
    have h1 := isVar_len hy.1
    have h2 := encN_two (u := y.1.length) (by omega)
    have h3 := encN_two (u := y.2.length) (by omega)
    simp only [encV, encT, List.length_append]; omega
  have e2 : (x.lines.flatMap encT).length ≤ x.lines.length * 16387 := fm_bound fun y hy => by
    have h1 := mem_sumL hy
    have h2 := h.sl
    have h3 := encN_three (u := y.length) (by omega)
    simp only [encT, List.length_append]; omega
  have e3 : (x.parts.flatMap encP).length ≤ x.parts.length * 1028 := fm_bound fun y hy => by
    have hy := h.p y hy
    have h2 := encN_two (u := y.1.toNat) (by omega)
    have h3 := encN_two (u := y.2.length) (by omega)
    simp only [encP, encT, List.length_append]; omega
  have e4 : (x.kids.flatMap encK).length ≤ x.kids.length * 3 := fm_bound fun y hy => by
    have hy := h.k y hy
    exact encN_three (by omega)
  have g1 := h.nv; have g2 := h.nl; have g3 := h.np; have g4 := h.nk; have g5 := h.st
  have f1 := encN_two (u := x.vars.length) (by omega)
  have f2 := encN_two (u := x.status.toNat) (by omega)
  have f3 := encN_two (u := x.lines.length) (by omega)
  have f4 := encN_two (u := x.parts.length) (by omega)
  have f5 := encN_two (u := x.kids.length) (by omega)
  unfold Sh.enc
  simp only [List.length_append, List.length_cons, List.length_nil]
  omega

/-- Objects that a writer leaves alone. -/
def Kp (s : St) (L : List (Nat × Nat × List AV)) : Prop := ∀ e ∈ L, look s.objs e.1 = some (.cells e.2.1 e.2.2) ∧ e.2.1 ≠ 75

/-- A writer at work, beside objects that stay. -/
def WS (s0 s : St) (w : Nat) (L : List (Nat × Nat × List AV)) (bs : List Nat) : Prop := ∃ W, Up s0 s [] ∧ Kp s L ∧ Wr s w bs W ∧ s0.next ≤ w ∧ ∀ i ∈ W, s0.next ≤ i

section
variable {s0 s s' : St} {w : Nat} {L : List (Nat × Nat × List AV)} {bs : List Nat}
theorem WS.fr (h : WS s0 s w L bs) : s.Fr := let ⟨_, h, _⟩ := h; h.fr
theorem WS.uq (h : WS s0 s w L bs) : Up s0 s [] := let ⟨_, h, _⟩ := h; h
theorem WS.at (h : WS s0 s w L bs) {q ty : Nat} {cs : List AV} (hm : (q, ty, cs) ∈ L) : look s.objs q = some (.cells ty cs) := let ⟨_, _, h, _⟩ := h; (h _ hm).1
theorem WS.sub (h : WS s0 s w L bs) {M : List (Nat × Nat × List AV)} (hs : ∀ e ∈ M, e ∈ L) : WS s0 s w M bs :=
  let ⟨W, h1, h2, h3⟩ := h; ⟨W, h1, fun e he => h2 e (hs e he), h3⟩
theorem Kp.up (h : Kp s L) (hF : s.Fr) {V : List Nat} (hU : Up s s' V) (hV : ∀ e ∈ L, e.1 ∉ V) : Kp s' L := fun e he => ⟨hU.at hF (h e he).1 (hV e he), (h e he).2⟩

theorem WS.wrote {more : List Nat} {W : List Nat} {k : AV → St → Prop} (hU : Up s0 s []) (hL : Kp s L) (hw : Wr s w bs W) (hwn : s0.next ≤ w) (hWn : ∀ i ∈ W, s0.next ≤ i)
    (hk : ∀ s', WS s0 s' w L (bs ++ more) → k (.tup []) s') : Wrote s w bs W more k := fun s' W' hU' hw' hN => by
  refine hk s' ⟨W', hU.own hU' ?_, hL.up hU.fr hU' ?_, hw', hwn, ?_⟩
  · intro i hi
    rcases List.mem_cons.1 hi with rfl | hi
    · exact hwn
    · exact hWn i hi
  · intro e he hi
    obtain ⟨h1, h2⟩ := hL e he
    rcases List.mem_cons.1 hi with h | h
    · obtain ⟨b, h3, _⟩ := hw
      rw [h, h3] at h1; simp at h1; exact h2 h1.1.symm
    · exact hw.ne h1 rfl h
  · intro i hi
    rcases hN i hi with h | h
    · exact hWn i h
    · exact Nat.le_trans hU.le h

theorem WS.num {n : Int} {k : AV → St → Prop} (h : WS s0 s w L bs) (hn : 0 ≤ n ∧ n < 9223372036854775808) (hb : bs.length + (encN n.toNat).length ≤ 20000000)
    (hk : ∀ s', WS s0 s' w L (bs ++ encN n.toNat) → k (.tup []) s') : Cal (EV kn) 20 [.ptr w 0, .int .i64 n] s k := by
  obtain ⟨W, hU, hq, hw, hwn, hWn⟩ := h
  have e : n = (n.toNat : Int) := by omega
  rw [e]
  exact c_Number hU.fr hw (by omega) hb (WS.wrote hU hq hw hwn hWn hk)
theorem WS.text {x : List Nat} {k : AV → St → Prop} (h : WS s0 s w L bs) (hn : x.length ≤ 16777216) (hb : bs.length + (encT x).length ≤ 20000000)
    (hk : ∀ s', WS s0 s' w L (bs ++ encT x) → k (.tup []) s') : Cal (EV kn) 21 [.ptr w 0, .str x] s k := by
  obtain ⟨W, hU, hq, hw, hwn, hWn⟩ := h
  exact c_Text hU.fr hw hn hb (WS.wrote hU hq hw hwn hWn hk)
theorem WS.flag {f : Bool} {k : AV → St → Prop} (h : WS s0 s w L bs) (hb : bs.length + 1 ≤ 20000000)
    (hk : ∀ s', WS s0 s' w L (bs ++ [if f then 1 else 0]) → k (.tup []) s') : Cal (EV kn) 22 [.ptr w 0, .bool f] s k := by
  obtain ⟨W, hU, hq, hw, hwn, hWn⟩ := h
  exact c_Flag hU.fr hw hb (WS.wrote hU hq hw hwn hWn hk)
/-- A new variable of a round. -/
theorem WS.alst {s3 s4 : St} {p ty : Nat} {cs : List AV} (h : WS s0 s w L bs) (hU3 : Up s s3 []) (hp : s.next ≤ p) (hU4 : Up s3 s4 [p]) (hl : look s4.objs p = some (.cells ty cs)) (ht : ty ≠ 75) : WS s0 s4 w ((p, ty, cs) :: L) bs := by
  obtain ⟨W, hU, hL, hw, hwn, hWn⟩ := h
  have hlt := hw.lt hU.fr
  refine ⟨W, (hU.then0 hU3).own1 hU4 (by have := hU.le; omega), ?_, ?_, hwn, hWn⟩
  · have hL4 := (hL.up hU.fr hU3 (by simp)).up hU3.fr hU4 (fun e he => by have := hU.fr.lt (hL e he).1; simp; omega)
    intro e he
    rcases List.mem_cons.1 he with rfl | he
    · exact ⟨hl, ht⟩
    · exact hL4 e he
  · have hw3 := hw.up0 hU.fr hU3
    exact hw3.up hU3.fr hU4 (by have := hlt w (by simp); simp; omega) (fun i hi => by have := hlt i (by simp [hi]); simp; omega)
end

set_option maxHeartbeats 4000000 in
theorem c_Encode {s : St} {x : Sh} {a b c d : AV} {k : AV → St → Prop} (hF : s.Fr) (ha : Ls a 2 (x.vars.map pv)) (hb : Ls b 1 (x.lines.map AV.str)) (hc : Ls c 2 (x.parts.map pp)) (hd : Ls d 1 (x.kids.map pk)) (hok : x.ok) (hsum : sumL x.lines ≤ 4611686018427387904) (hll : x.lines.length ≤ 4611686018427387904)
    (hk0 : ∀ s', Up s s' [] → x.check ≠ 0 → k (.tup [.str [], .int .i64 x.check]) s') (hk1 : ∀ s', Up s s' [] → x.check = 0 → k (.tup [.str x.enc, .int .i64 0]) s') :
    Cal (EV kn) 7 [.agg [a, .int .i64 x.status, b, c, .bool x.bg, d]] s k := by
  refine cal_fn rfl (f := 7) rfl rfl ?_
  have hl1 : (x.vars.map pv).length = x.vars.length := by simp
  have hl2 : (x.lines.map AV.str).length = x.lines.length := by simp
  have hl3 : (x.parts.map pp).length = x.parts.length := by simp
  have hl4 : (x.kids.map pk).length = x.kids.length := by simp
  repeat' (first|refine r_a ?_|refine stp ?_|refine r_l ?_|refine r_c ?_|refine r_t fun _=>?_|refine r_f fun _=>?_|refine r_m (fun _=>?_) fun _=>?_|refine stq ?_|refine r_i ?_|refine r_x ?_)
  refine s_bx rfl hF fun s1 q hU1 hq hql => ?_
  repeat' (first|refine r_a ?_|refine stp ?_|refine r_l ?_|refine r_c ?_|refine r_t fun _=>?_|refine r_f fun _=>?_|refine r_m (fun _=>?_) fun _=>?_|refine stq ?_|refine r_i ?_|refine r_x ?_)
  refine s_k rfl (c_Check hU1.fr ha hb hc hd hsum hll fun s2 hU2 => ?_)
  have hq2 := hU2.at0 hU1.fr hq
  have hUs := hU1.then0 hU2
  repeat' (first|refine r_a ?_|refine stp ?_|refine r_l ?_|refine r_c ?_|refine r_t fun _=>?_|refine r_f fun _=>?_|refine r_m (fun _=>?_) fun _=>?_|refine stq ?_|refine r_i ?_|refine r_x ?_)
  · rename_i h
    refine s_ret rfl ?_
    exact hk0 _ (hUs.out .none) h
  rename_i h
  have hg := Sh.good_of h
  have hB := hg.enc_len
  have hB2 := hok.enc
  have hk := fun s' (hU : Up s s' []) => hk1 s' hU h
  clear hk0 hk1
  simp only [Sh.enc, List.length_append] at hB
  refine s_k rfl (c_NewWriter hUs.fr fun w s3 hU3 hw3 hwl => ?_)
  have hq3 := hU3.at0 hUs.fr hq2
  have h3 : WS s s3 w [(q, 27, [a, .int .i64 x.status, b, c, .bool x.bg, d])] [] := ⟨[], hUs.then0 hU3, fun e he => by
    rw [List.mem_singleton] at he; subst he; exact ⟨hq3, by simp⟩, hw3, Nat.le_trans hUs.le hwl, by simp⟩
  clear hq hq2 hw3 hU3 hUs hU2 hU1
  repeat' (first|refine r_a ?_|refine stp ?_|refine r_l ?_|refine r_c ?_|refine r_t fun _=>?_|refine r_f fun _=>?_|refine r_m (fun _=>?_) fun _=>?_|refine stq ?_|refine r_i ?_|refine r_x ?_)
  have g1 := hg.nv
  refine s_k rfl ?_
  refine h3.num ⟨by omega, by omega⟩ (by simp; omega) fun s4 h4 => ?_
  rw [hl1] at h4
  clear h3 hq3
  have e0 : ([] : List Nat) ++ encN ((x.vars.length : Nat) : Int).toNat = encN x.vars.length := rfl
  rw [e0] at h4
  have hq4 := h4.at (.head _)
  repeat' (first|refine r_a ?_|refine stp ?_|refine r_l ?_|refine r_c ?_|refine r_t fun _=>?_|refine r_f fun _=>?_|refine r_m (fun _=>?_) fun _=>?_|refine stq ?_|refine r_i ?_|refine r_x ?_)
  -- the variables
  refine s_lpj (fun (i : Nat) φ s5 => WS s s5 w [(q, 27, [a, .int .i64 x.status, b, c, .bool x.bg, d])] (encN x.vars.length ++ (x.vars.take i).flatMap encV) ∧ At φ 1 (.ptr q 0) true ∧ At φ 5 (.ptr w 0) true ∧ At φ 28 a true ∧ At φ 29 (.int .i64 ((x.vars.map pv).length : Int)) true ∧ At φ 30 (.int .i64 i) true ∧ i ≤ x.vars.length) (fun i => x.vars.length - i)
    (fun φ s5 => WS s s5 w [(q, 27, [a, .int .i64 x.status, b, c, .bool x.bg, d])] (encN x.vars.length ++ x.vars.flatMap encV) ∧ At φ 1 (.ptr q 0) true ∧ At φ 5 (.ptr w 0) true) 0 ?_ ?_ ?_
  · exact ⟨by rw [List.take_zero, List.flatMap_nil, List.append_nil]; exact h4, at_of rfl, at_of rfl, at_of rfl, at_of rfl, at_of rfl, by omega⟩
  · rintro i φ s5 ⟨h5, m1, m5, m28, m29, m30, hi⟩
    by_cases hlt : i < x.vars.length
    · obtain ⟨⟨n, v⟩, he⟩ : ∃ e, x.vars[i]? = some e := ⟨_, List.getElem?_eq_getElem hlt⟩
      have hx := map_get (f := pv) (i := i) he rfl
      simp only [pv] at hx
      have hv := hg.v _ (List.mem_of_getElem? he)
      have hn := isVar_len hv.1
      have hlen := fm_len x.vars encV (i + 1)
      rw [fm_take he] at hlen
      simp only [encV, List.length_append] at hlen
      simp only at hv hn
      repeat' (first|refine r_a ?_|refine stp ?_|refine r_l ?_|refine r_c ?_|refine r_t fun _=>?_|refine r_f fun _=>?_|refine r_m (fun _=>?_) fun _=>?_|refine stq ?_|refine r_i ?_|refine r_x ?_)
      refine s_al h5.fr fun s6 p hU6 hp hpl => ?_
      repeat' (first|refine r_a ?_|refine stp ?_|refine r_l ?_|refine r_c ?_|refine r_t fun _=>?_|refine r_f fun _=>?_|refine r_m (fun _=>?_) fun _=>?_|refine stq ?_|refine r_i ?_|refine r_x ?_)
      refine s_st rfl hU6.fr hp fun s7 hU7 hp7 => ?_
      have h7 := h5.alst hU6 hpl hU7 hp7 (by decide)
      clear hp
      repeat' (first|refine r_a ?_|refine stp ?_|refine r_l ?_|refine r_c ?_|refine r_t fun _=>?_|refine r_f fun _=>?_|refine r_m (fun _=>?_) fun _=>?_|refine stq ?_|refine r_i ?_|refine r_x ?_)
      refine s_k rfl ?_
      refine h7.text (by omega) (by simp only [List.length_append]; omega) fun s8 h8 => ?_
      have hp8 := h8.at (.head _)
      clear hp7
      repeat' (first|refine r_a ?_|refine stp ?_|refine r_l ?_|refine r_c ?_|refine r_t fun _=>?_|refine r_f fun _=>?_|refine r_m (fun _=>?_) fun _=>?_|refine stq ?_|refine r_i ?_|refine r_x ?_)
      refine s_k rfl ?_
      refine h8.text (by omega) (by simp only [List.length_append]; omega) fun s9 h9 => ?_
      repeat' (first|refine r_a ?_|refine stp ?_|refine r_l ?_|refine r_c ?_|refine r_t fun _=>?_|refine r_f fun _=>?_|refine r_m (fun _=>?_) fun _=>?_|refine stq ?_|refine r_i ?_|refine r_x ?_)
      refine ⟨i + 1, by omega, ?_, at_of rfl, at_of rfl, at_of rfl, at_of rfl, at_of rfl, by omega⟩
      rw [fm_take he]
      simp only [encV]
      rw [← List.append_assoc, ← List.append_assoc]
      exact h9.sub (fun e he => .tail _ he)
    ·
      repeat' (first|refine r_a ?_|refine stp ?_|refine r_l ?_|refine r_c ?_|refine r_t fun _=>?_|refine r_f fun _=>?_|refine r_m (fun _=>?_) fun _=>?_|refine stq ?_|refine r_i ?_|refine r_x ?_)
      rw [List.take_of_length_le (by omega)] at h5
      exact ⟨h5, at_of rfl, at_of rfl⟩
  rintro φ s5 ⟨h5, m1, m5⟩
  clear h4 hq4
  have hq5 := h5.at (.head _)
  have g2 := hg.st
  repeat' (first|refine r_a ?_|refine stp ?_|refine r_l ?_|refine r_c ?_|refine r_t fun _=>?_|refine r_f fun _=>?_|refine r_m (fun _=>?_) fun _=>?_|refine stq ?_|refine r_i ?_|refine r_x ?_)
  refine s_k rfl ?_
  refine h5.num ⟨by omega, by omega⟩ (by simp only [List.length_append]; omega) fun s6 h6 => ?_
  clear h5 hq5
  have hq6 := h6.at (.head _)
  have g3 := hg.nl
  repeat' (first|refine r_a ?_|refine stp ?_|refine r_l ?_|refine r_c ?_|refine r_t fun _=>?_|refine r_f fun _=>?_|refine r_m (fun _=>?_) fun _=>?_|refine stq ?_|refine r_i ?_|refine r_x ?_)
  refine s_k rfl ?_
  refine h6.num ⟨by omega, by omega⟩ (by rw [hl2, Int.toNat_natCast]; simp only [List.length_append]; omega) fun s7 h7 => ?_
  rw [hl2, Int.toNat_natCast] at h7
  clear h6 hq6
  have hq7 := h7.at (.head _)
  repeat' (first|refine r_a ?_|refine stp ?_|refine r_l ?_|refine r_c ?_|refine r_t fun _=>?_|refine r_f fun _=>?_|refine r_m (fun _=>?_) fun _=>?_|refine stq ?_|refine r_i ?_|refine r_x ?_)
  -- the lines
  refine s_lpj (fun (i : Nat) φ s8 => WS s s8 w [(q, 27, [a, .int .i64 x.status, b, c, .bool x.bg, d])] (encN x.vars.length ++ x.vars.flatMap encV ++ encN x.status.toNat ++ encN x.lines.length ++ (x.lines.take i).flatMap encT) ∧ At φ 1 (.ptr q 0) true ∧ At φ 5 (.ptr w 0) true ∧ At φ 53 b true ∧ At φ 54 (.int .i64 ((x.lines.map AV.str).length : Int)) true ∧ At φ 55 (.int .i64 i) true ∧ i ≤ x.lines.length) (fun i => x.lines.length - i)
    (fun φ s8 => WS s s8 w [(q, 27, [a, .int .i64 x.status, b, c, .bool x.bg, d])] (encN x.vars.length ++ x.vars.flatMap encV ++ encN x.status.toNat ++ encN x.lines.length ++ x.lines.flatMap encT) ∧ At φ 1 (.ptr q 0) true ∧ At φ 5 (.ptr w 0) true) 0 ?_ ?_ ?_
  · exact ⟨by rw [List.take_zero, List.flatMap_nil, List.append_nil]; exact h7, at_of rfl, at_of rfl, at_of rfl, at_of rfl, at_of rfl, by omega⟩
  · rintro i φ s8 ⟨h8, m1, m5, m53, m54, m55, hi⟩
    by_cases hlt : i < x.lines.length
    · obtain ⟨n, he⟩ : ∃ e, x.lines[i]? = some e := ⟨_, List.getElem?_eq_getElem hlt⟩
      have hx := map_get (f := AV.str) (i := i) he rfl
      have hn := mem_sumL (List.mem_of_getElem? he)
      have hsl := hg.sl
      have hlen := fm_len x.lines encT (i + 1)
      rw [fm_take he, List.length_append] at hlen
      repeat' (first|refine r_a ?_|refine stp ?_|refine r_l ?_|refine r_c ?_|refine r_t fun _=>?_|refine r_f fun _=>?_|refine r_m (fun _=>?_) fun _=>?_|refine stq ?_|refine r_i ?_|refine r_x ?_)
      refine s_k rfl ?_
      refine h8.text (by omega) (by simp only [List.length_append]; omega) fun s9 h9 => ?_
      repeat' (first|refine r_a ?_|refine stp ?_|refine r_l ?_|refine r_c ?_|refine r_t fun _=>?_|refine r_f fun _=>?_|refine r_m (fun _=>?_) fun _=>?_|refine stq ?_|refine r_i ?_|refine r_x ?_)
      refine ⟨i + 1, by omega, ?_, at_of rfl, at_of rfl, at_of rfl, at_of rfl, at_of rfl, by omega⟩
      rw [fm_take he, ← List.append_assoc]
      exact h9
    ·
      repeat' (first|refine r_a ?_|refine stp ?_|refine r_l ?_|refine r_c ?_|refine r_t fun _=>?_|refine r_f fun _=>?_|refine r_m (fun _=>?_) fun _=>?_|refine stq ?_|refine r_i ?_|refine r_x ?_)
      rw [List.take_of_length_le (by omega)] at h8
      exact ⟨h8, at_of rfl, at_of rfl⟩
  rintro φ s8 ⟨h8, m1, m5⟩
  clear h7 hq7
  have hq8 := h8.at (.head _)
  have g4 := hg.np
  repeat' (first|refine r_a ?_|refine stp ?_|refine r_l ?_|refine r_c ?_|refine r_t fun _=>?_|refine r_f fun _=>?_|refine r_m (fun _=>?_) fun _=>?_|refine stq ?_|refine r_i ?_|refine r_x ?_)
  refine s_k rfl ?_
  refine h8.num ⟨by omega, by omega⟩ (by rw [hl3, Int.toNat_natCast]; simp only [List.length_append]; omega) fun s9 h9 => ?_
  rw [hl3, Int.toNat_natCast] at h9
  clear h8 hq8
  have hq9 := h9.at (.head _)
  repeat' (first|refine r_a ?_|refine stp ?_|refine r_l ?_|refine r_c ?_|refine r_t fun _=>?_|refine r_f fun _=>?_|refine r_m (fun _=>?_) fun _=>?_|refine stq ?_|refine r_i ?_|refine r_x ?_)
  -- the parts
  refine s_lpj (fun (i : Nat) φ s10 => WS s s10 w [(q, 27, [a, .int .i64 x.status, b, c, .bool x.bg, d])] (encN x.vars.length ++ x.vars.flatMap encV ++ encN x.status.toNat ++ encN x.lines.length ++ x.lines.flatMap encT ++ encN x.parts.length ++ (x.parts.take i).flatMap encP) ∧ At φ 1 (.ptr q 0) true ∧ At φ 5 (.ptr w 0) true ∧ At φ 69 c true ∧ At φ 70 (.int .i64 ((x.parts.map pp).length : Int)) true ∧ At φ 71 (.int .i64 i) true ∧ i ≤ x.parts.length) (fun i => x.parts.length - i)
    (fun φ s10 => WS s s10 w [(q, 27, [a, .int .i64 x.status, b, c, .bool x.bg, d])] (encN x.vars.length ++ x.vars.flatMap encV ++ encN x.status.toNat ++ encN x.lines.length ++ x.lines.flatMap encT ++ encN x.parts.length ++ x.parts.flatMap encP) ∧ At φ 1 (.ptr q 0) true ∧ At φ 5 (.ptr w 0) true) 0 ?_ ?_ ?_
  · exact ⟨by rw [List.take_zero, List.flatMap_nil, List.append_nil]; exact h9, at_of rfl, at_of rfl, at_of rfl, at_of rfl, at_of rfl, by omega⟩
  · rintro i φ s10 ⟨h10, m1, m5, m69, m70, m71, hi⟩
    by_cases hlt : i < x.parts.length
    · obtain ⟨⟨n, v⟩, he⟩ : ∃ e, x.parts[i]? = some e := ⟨_, List.getElem?_eq_getElem hlt⟩
      have hx := map_get (f := pp) (i := i) he rfl
      simp only [pp] at hx
      have hv := hg.p _ (List.mem_of_getElem? he)
      have hlen := fm_len x.parts encP (i + 1)
      rw [fm_take he] at hlen
      simp only [encP, List.length_append] at hlen
      simp only at hv
      repeat' (first|refine r_a ?_|refine stp ?_|refine r_l ?_|refine r_c ?_|refine r_t fun _=>?_|refine r_f fun _=>?_|refine r_m (fun _=>?_) fun _=>?_|refine stq ?_|refine r_i ?_|refine r_x ?_)
      refine s_al h10.fr fun s6 p hU6 hp hpl => ?_
      repeat' (first|refine r_a ?_|refine stp ?_|refine r_l ?_|refine r_c ?_|refine r_t fun _=>?_|refine r_f fun _=>?_|refine r_m (fun _=>?_) fun _=>?_|refine stq ?_|refine r_i ?_|refine r_x ?_)
      refine s_st rfl hU6.fr hp fun s7 hU7 hp7 => ?_
      have h7 := h10.alst hU6 hpl hU7 hp7 (by decide)
      clear hp
      repeat' (first|refine r_a ?_|refine stp ?_|refine r_l ?_|refine r_c ?_|refine r_t fun _=>?_|refine r_f fun _=>?_|refine r_m (fun _=>?_) fun _=>?_|refine stq ?_|refine r_i ?_|refine r_x ?_)
      refine s_k rfl ?_
      refine h7.num ⟨by omega, by omega⟩ (by simp only [List.length_append]; omega) fun s8 h8 => ?_
      have hp8 := h8.at (.head _)
      clear hp7
      repeat' (first|refine r_a ?_|refine stp ?_|refine r_l ?_|refine r_c ?_|refine r_t fun _=>?_|refine r_f fun _=>?_|refine r_m (fun _=>?_) fun _=>?_|refine stq ?_|refine r_i ?_|refine r_x ?_)
      refine s_k rfl ?_
      refine h8.text (by omega) (by simp only [List.length_append]; omega) fun s9 h9 => ?_
      repeat' (first|refine r_a ?_|refine stp ?_|refine r_l ?_|refine r_c ?_|refine r_t fun _=>?_|refine r_f fun _=>?_|refine r_m (fun _=>?_) fun _=>?_|refine stq ?_|refine r_i ?_|refine r_x ?_)
      refine ⟨i + 1, by omega, ?_, at_of rfl, at_of rfl, at_of rfl, at_of rfl, at_of rfl, by omega⟩
      rw [fm_take he]
      simp only [encP]
      rw [← List.append_assoc, ← List.append_assoc]
      exact h9.sub (fun e he => .tail _ he)
    ·
      repeat' (first|refine r_a ?_|refine stp ?_|refine r_l ?_|refine r_c ?_|refine r_t fun _=>?_|refine r_f fun _=>?_|refine r_m (fun _=>?_) fun _=>?_|refine stq ?_|refine r_i ?_|refine r_x ?_)
      rw [List.take_of_length_le (by omega)] at h10
      exact ⟨h10, at_of rfl, at_of rfl⟩
  rintro φ s10 ⟨h10, m1, m5⟩
  clear h9 hq9
  have hq10 := h10.at (.head _)
  have g5 := hg.nk
  simp only [List.length_cons, List.length_nil] at hB
  repeat' (first|refine r_a ?_|refine stp ?_|refine r_l ?_|refine r_c ?_|refine r_t fun _=>?_|refine r_f fun _=>?_|refine r_m (fun _=>?_) fun _=>?_|refine stq ?_|refine r_i ?_|refine r_x ?_)
  refine s_k rfl ?_
  refine h10.flag (by simp only [List.length_append]; omega) fun s11 h11 => ?_
  clear h10 hq10
  have hq11 := h11.at (.head _)
  repeat' (first|refine r_a ?_|refine stp ?_|refine r_l ?_|refine r_c ?_|refine r_t fun _=>?_|refine r_f fun _=>?_|refine r_m (fun _=>?_) fun _=>?_|refine stq ?_|refine r_i ?_|refine r_x ?_)
  refine s_k rfl ?_
  refine h11.num ⟨by omega, by omega⟩ (by rw [hl4, Int.toNat_natCast]; simp only [List.length_append, List.length_cons, List.length_nil]; omega) fun s12 h12 => ?_
  rw [hl4, Int.toNat_natCast] at h12
  clear h11 hq11
  have hq12 := h12.at (.head _)
  repeat' (first|refine r_a ?_|refine stp ?_|refine r_l ?_|refine r_c ?_|refine r_t fun _=>?_|refine r_f fun _=>?_|refine r_m (fun _=>?_) fun _=>?_|refine stq ?_|refine r_i ?_|refine r_x ?_)
  -- the children
  refine s_lpj (fun (i : Nat) φ s13 => WS s s13 w [(q, 27, [a, .int .i64 x.status, b, c, .bool x.bg, d])] (encN x.vars.length ++ x.vars.flatMap encV ++ encN x.status.toNat ++ encN x.lines.length ++ x.lines.flatMap encT ++ encN x.parts.length ++ x.parts.flatMap encP ++ [if x.bg then 1 else 0] ++ encN x.kids.length ++ (x.kids.take i).flatMap encK) ∧ At φ 5 (.ptr w 0) true ∧ At φ 94 d true ∧ At φ 95 (.int .i64 ((x.kids.map pk).length : Int)) true ∧ At φ 96 (.int .i64 i) true ∧ i ≤ x.kids.length) (fun i => x.kids.length - i)
    (fun φ s13 => WS s s13 w [(q, 27, [a, .int .i64 x.status, b, c, .bool x.bg, d])] x.enc ∧ At φ 5 (.ptr w 0) true) 0 ?_ ?_ ?_
  · exact ⟨by rw [List.take_zero, List.flatMap_nil, List.append_nil]; exact h12, at_of rfl, at_of rfl, at_of rfl, at_of rfl, by omega⟩
  · rintro i φ s13 ⟨h13, m5, m94, m95, m96, hi⟩
    by_cases hlt : i < x.kids.length
    · obtain ⟨n, he⟩ : ∃ e, x.kids[i]? = some e := ⟨_, List.getElem?_eq_getElem hlt⟩
      have hx := map_get (f := pk) (i := i) he rfl
      simp only [pk] at hx
      have hv := hg.k _ (List.mem_of_getElem? he)
      have hlen := fm_len x.kids encK (i + 1)
      rw [fm_take he] at hlen
      simp only [encK, List.length_append] at hlen
      repeat' (first|refine r_a ?_|refine stp ?_|refine r_l ?_|refine r_c ?_|refine r_t fun _=>?_|refine r_f fun _=>?_|refine r_m (fun _=>?_) fun _=>?_|refine stq ?_|refine r_i ?_|refine r_x ?_)
      refine s_k rfl ?_
      refine h13.num ⟨by omega, by omega⟩ (by simp only [List.length_append, List.length_cons, List.length_nil, encK]; omega) fun s9 h9 => ?_
      repeat' (first|refine r_a ?_|refine stp ?_|refine r_l ?_|refine r_c ?_|refine r_t fun _=>?_|refine r_f fun _=>?_|refine r_m (fun _=>?_) fun _=>?_|refine stq ?_|refine r_i ?_|refine r_x ?_)
      refine ⟨i + 1, by omega, ?_, at_of rfl, at_of rfl, at_of rfl, at_of rfl, by omega⟩
      rw [fm_take he, ← List.append_assoc]
      exact h9
    ·
      repeat' (first|refine r_a ?_|refine stp ?_|refine r_l ?_|refine r_c ?_|refine r_t fun _=>?_|refine r_f fun _=>?_|refine r_m (fun _=>?_) fun _=>?_|refine stq ?_|refine r_i ?_|refine r_x ?_)
      rw [List.take_of_length_le (by omega)] at h13
      exact ⟨h13, at_of rfl⟩
  rintro φ s13 ⟨h13, m5⟩
  repeat' (first|refine r_a ?_|refine stp ?_|refine r_l ?_|refine r_c ?_|refine r_t fun _=>?_|refine r_f fun _=>?_|refine r_m (fun _=>?_) fun _=>?_|refine stq ?_|refine r_i ?_|refine r_x ?_)
  obtain ⟨W, hU13, _, hw13, _, _⟩ := h13
  refine s_k rfl ?_
  refine c_Bytes hU13.fr hw13 hg.enc_len fun v' s14 hU14 hv' => ?_
  repeat' (first|refine r_a ?_|refine stp ?_|refine r_l ?_|refine r_c ?_|refine r_t fun _=>?_|refine r_f fun _=>?_|refine r_m (fun _=>?_) fun _=>?_|refine stq ?_|refine r_i ?_|refine r_x ?_)
  refine s_b2s rfl hv' hB2 ?_
  repeat' (first|refine r_a ?_|refine stp ?_|refine r_l ?_|refine r_c ?_|refine r_t fun _=>?_|refine r_f fun _=>?_|refine r_m (fun _=>?_) fun _=>?_|refine stq ?_|refine r_i ?_|refine r_x ?_)
  refine s_ret rfl ?_
  exact hk _ ((hU13.then0 hU14).out .none)
end Go.Am

namespace Go.Am
open T
attribute [local irreducible] Wp WpO Cal Rt Then Blocked Slc Lq Jq upd' φ0 lst

section
variable {E : Env} {N : Nat} {φ : Nat → AV} {s : St} {K : (Nat → AV) → St → Prop} {dd t : Nat} {r : List IStmt}
theorem s_eqss {x y : Opd} {a b c d : List Nat} {e e' : Bool} [h0 : Ev N φ x (.agg [.str a, .str b]) e] [h1 : Ev N φ y (.agg [.str c, .str d]) e'] (hc : (e && e') = true)
    (ht : (a, b) ≠ (c, d) → WpO E N r (upd' φ dd (.bool true)) s K) (hf : (a, b) = (c, d) → WpO E N r (upd' φ dd (.bool false)) s K) : WpO E N (.op (some dd) none (.eqa true [.s, .s] x y) :: r) φ s K := by
  rw [Bool.and_eq_true] at hc
  by_cases h : (a, b) = (c, d)
  · refine wpO_op ?_ (hf h)
    cases h
    simp [evOp, h0.h hc.1, h1.h hc.2, cmpCells, cmpCell]
  · refine wpO_op ?_ (ht h)
    have : ¬ (a = c ∧ b = d) := fun e => h (by rw [e.1, e.2])
    simp [evOp, h0.h hc.1, h1.h hc.2, cmpCells, cmpCell]
    exact Decidable.not_and_iff_not_or_not.1 this
theorem s_eqis {x y : Opd} {a c : Int} {b d : List Nat} {e e' : Bool} [h0 : Ev N φ x (.agg [.int .i64 a, .str b]) e] [h1 : Ev N φ y (.agg [.int .i64 c, .str d]) e'] (hc : (e && e') = true)
    (ht : (a, b) ≠ (c, d) → WpO E N r (upd' φ dd (.bool true)) s K) (hf : (a, b) = (c, d) → WpO E N r (upd' φ dd (.bool false)) s K) : WpO E N (.op (some dd) none (.eqa true [.i, .s] x y) :: r) φ s K := by
  rw [Bool.and_eq_true] at hc
  by_cases h : (a, b) = (c, d)
  · refine wpO_op ?_ (hf h)
    cases h
    simp [evOp, h0.h hc.1, h1.h hc.2, cmpCells, cmpCell]
  · refine wpO_op ?_ (ht h)
    have : ¬ (a = c ∧ b = d) := fun e => h (by rw [e.1, e.2])
    simp [evOp, h0.h hc.1, h1.h hc.2, cmpCells, cmpCell]
    exact Decidable.not_and_iff_not_or_not.1 this
end

variable {kn : List AV → St → Option (AV × St)}

theorem take_eq {α : Type} {l l' : List α} {i : Nat} {x y : α} (h : l[i]? = some x) (h' : l'[i]? = some y) (ht : l.take i = l'.take i) : (x = y → l.take (i + 1) = l'.take (i + 1)) ∧ (x ≠ y → l ≠ l') := by
  refine ⟨fun e => ?_, fun hn e => ?_⟩
  · rw [List.take_add_one, List.take_add_one, ht, h, h', e]
  · rw [e, h'] at h; exact hn (by simpa using h.symm)

theorem c_Eq31 {s : St} {a a' : AV} {l l' : List (List Nat × List Nat)} {k : AV → St → Prop} (hF : s.Fr) (ha : Ls a 2 (l.map pv)) (ha' : Ls a' 2 (l'.map pv)) (hll : l.length ≤ 4611686018427387904)
    (hk : ∀ s', Up s s' [] → (l = l' → k (.bool true) s') ∧ (l ≠ l' → k (.bool false) s')) : Cal (EV kn) 31 [a, a'] s k := by
  refine cal_fn rfl (f := 31) rfl rfl ?_
  have h1 : (l.map pv).length = l.length := by simp
  have h2 : (l'.map pv).length = l'.length := by simp
  have hk := hk _ ((Up.refl hF).out .none)
  repeat' (first|refine r_a ?_|refine stp ?_|refine r_l ?_|refine r_c ?_|refine r_t fun _=>?_|refine r_f fun _=>?_|refine r_m (fun _=>?_) fun _=>?_|refine stq ?_|refine r_i ?_|refine r_x ?_)
  · refine s_ret rfl ?_
    exact hk.2 (fun e => by subst e; omega)
  rename_i hle
  refine s_lpj (fun (i : Nat) φ s2 => s2 = s ∧ At φ 0 a true ∧ At φ 1 a' true ∧ At φ 12 (.int .i64 ((l.map pv).length : Int)) true ∧ At φ 13 (.int .i64 i) true ∧ i ≤ l.length ∧ l.take i = l'.take i) (fun i => l.length - i)
    (fun φ s2 => s2 = s ∧ l = l') 0 ?_ ?_ ?_
  · exact ⟨rfl, at_of rfl, at_of rfl, at_of rfl, at_of rfl, by omega, rfl⟩
  · rintro i φ s2 ⟨rfl, g0, g1, g12, g13, hi, ht⟩
    by_cases hlt : i < l.length
    · obtain ⟨x, he⟩ : ∃ e, l[i]? = some e := ⟨_, List.getElem?_eq_getElem hlt⟩
      obtain ⟨y, he'⟩ : ∃ e, l'[i]? = some e := ⟨_, List.getElem?_eq_getElem (by omega)⟩
      have hx := map_get (f := pv) (i := i) he rfl
      have hy := map_get (f := pv) (i := i) he' rfl
      simp only [pv] at hx hy
      have htk := take_eq he he' ht
      repeat' (first|refine r_a ?_|refine stp ?_|refine r_l ?_|refine r_c ?_|refine r_t fun _=>?_|refine r_f fun _=>?_|refine r_m (fun _=>?_) fun _=>?_|refine stq ?_|refine r_i ?_|refine r_x ?_)
      refine s_eqss rfl (fun hne => ?_) (fun heq => ?_)
      ·
        repeat' (first|refine r_a ?_|refine stp ?_|refine r_l ?_|refine r_c ?_|refine r_t fun _=>?_|refine r_f fun _=>?_|refine r_m (fun _=>?_) fun _=>?_|refine stq ?_|refine r_i ?_|refine r_x ?_)
        refine s_ret rfl ?_
        exact hk.2 (htk.2 hne)
      ·
        repeat' (first|refine r_a ?_|refine stp ?_|refine r_l ?_|refine r_c ?_|refine r_t fun _=>?_|refine r_f fun _=>?_|refine r_m (fun _=>?_) fun _=>?_|refine stq ?_|refine r_i ?_|refine r_x ?_)
        exact ⟨i + 1, by omega, rfl, at_of rfl, at_of rfl, at_of rfl, at_of rfl, by omega, htk.1 heq⟩
    ·
      repeat' (first|refine r_a ?_|refine stp ?_|refine r_l ?_|refine r_c ?_|refine r_t fun _=>?_|refine r_f fun _=>?_|refine r_m (fun _=>?_) fun _=>?_|refine stq ?_|refine r_i ?_|refine r_x ?_)
      rw [List.take_of_length_le (by omega), List.take_of_length_le (by omega)] at ht
      exact ⟨rfl, ht⟩
  · rintro φ s2 ⟨rfl, ht⟩
    repeat' (first|refine r_a ?_|refine stp ?_|refine r_l ?_|refine r_c ?_|refine r_t fun _=>?_|refine r_f fun _=>?_|refine r_m (fun _=>?_) fun _=>?_|refine stq ?_|refine r_i ?_|refine r_x ?_)
    refine s_ret rfl ?_
    exact hk.1 ht

theorem c_Eq32 {s : St} {a a' : AV} {l l' : List (List Nat)} {k : AV → St → Prop} (hF : s.Fr) (ha : Ls a 1 (l.map AV.str)) (ha' : Ls a' 1 (l'.map AV.str)) (hll : l.length ≤ 4611686018427387904)
    (hk : ∀ s', Up s s' [] → (l = l' → k (.bool true) s') ∧ (l ≠ l' → k (.bool false) s')) : Cal (EV kn) 32 [a, a'] s k := by
  refine cal_fn rfl (f := 32) rfl rfl ?_
  have h1 : (l.map AV.str).length = l.length := by simp
  have h2 : (l'.map AV.str).length = l'.length := by simp
  have hk := hk _ ((Up.refl hF).out .none)
  repeat' (first|refine r_a ?_|refine stp ?_|refine r_l ?_|refine r_c ?_|refine r_t fun _=>?_|refine r_f fun _=>?_|refine r_m (fun _=>?_) fun _=>?_|refine stq ?_|refine r_i ?_|refine r_x ?_)
  · refine s_ret rfl ?_
    exact hk.2 (fun e => by subst e; omega)
  rename_i hle
  refine s_lpj (fun (i : Nat) φ s2 => s2 = s ∧ At φ 0 a true ∧ At φ 1 a' true ∧ At φ 12 (.int .i64 ((l.map AV.str).length : Int)) true ∧ At φ 13 (.int .i64 i) true ∧ i ≤ l.length ∧ l.take i = l'.take i) (fun i => l.length - i)
    (fun φ s2 => s2 = s ∧ l = l') 0 ?_ ?_ ?_
  · exact ⟨rfl, at_of rfl, at_of rfl, at_of rfl, at_of rfl, by omega, rfl⟩
  · rintro i φ s2 ⟨rfl, g0, g1, g12, g13, hi, ht⟩
    by_cases hlt : i < l.length
    · obtain ⟨x, he⟩ : ∃ e, l[i]? = some e := ⟨_, List.getElem?_eq_getElem hlt⟩
      obtain ⟨y, he'⟩ : ∃ e, l'[i]? = some e := ⟨_, List.getElem?_eq_getElem (by omega)⟩
      have hx := map_get (f := AV.str) (i := i) he rfl
      have hy := map_get (f := AV.str) (i := i) he' rfl
      have htk := take_eq he he' ht
      repeat' (first|refine r_a ?_|refine stp ?_|refine r_l ?_|refine r_c ?_|refine r_t fun _=>?_|refine r_f fun _=>?_|refine r_m (fun _=>?_) fun _=>?_|refine stq ?_|refine r_i ?_|refine r_x ?_)
      · rename_i hne
        refine s_ret rfl ?_
        exact hk.2 (htk.2 hne)
      · rename_i heq
        exact ⟨i + 1, by omega, rfl, at_of rfl, at_of rfl, at_of rfl, at_of rfl, by omega, htk.1 heq⟩
    ·
      repeat' (first|refine r_a ?_|refine stp ?_|refine r_l ?_|refine r_c ?_|refine r_t fun _=>?_|refine r_f fun _=>?_|refine r_m (fun _=>?_) fun _=>?_|refine stq ?_|refine r_i ?_|refine r_x ?_)
      rw [List.take_of_length_le (by omega), List.take_of_length_le (by omega)] at ht
      exact ⟨rfl, ht⟩
  · rintro φ s2 ⟨rfl, ht⟩
    repeat' (first|refine r_a ?_|refine stp ?_|refine r_l ?_|refine r_c ?_|refine r_t fun _=>?_|refine r_f fun _=>?_|refine r_m (fun _=>?_) fun _=>?_|refine stq ?_|refine r_i ?_|refine r_x ?_)
    refine s_ret rfl ?_
    exact hk.1 ht

theorem c_Eq33 {s : St} {a a' : AV} {l l' : List (Int × List Nat)} {k : AV → St → Prop} (hF : s.Fr) (ha : Ls a 2 (l.map pp)) (ha' : Ls a' 2 (l'.map pp)) (hll : l.length ≤ 4611686018427387904)
    (hk : ∀ s', Up s s' [] → (l = l' → k (.bool true) s') ∧ (l ≠ l' → k (.bool false) s')) : Cal (EV kn) 33 [a, a'] s k := by
  refine cal_fn rfl (f := 33) rfl rfl ?_
  have h1 : (l.map pp).length = l.length := by simp
  have h2 : (l'.map pp).length = l'.length := by simp
  have hk := hk _ ((Up.refl hF).out .none)
  repeat' (first|refine r_a ?_|refine stp ?_|refine r_l ?_|refine r_c ?_|refine r_t fun _=>?_|refine r_f fun _=>?_|refine r_m (fun _=>?_) fun _=>?_|refine stq ?_|refine r_i ?_|refine r_x ?_)
  · refine s_ret rfl ?_
    exact hk.2 (fun e => by subst e; omega)
  rename_i hle
  refine s_lpj (fun (i : Nat) φ s2 => s2 = s ∧ At φ 0 a true ∧ At φ 1 a' true ∧ At φ 12 (.int .i64 ((l.map pp).length : Int)) true ∧ At φ 13 (.int .i64 i) true ∧ i ≤ l.length ∧ l.take i = l'.take i) (fun i => l.length - i)
    (fun φ s2 => s2 = s ∧ l = l') 0 ?_ ?_ ?_
  · exact ⟨rfl, at_of rfl, at_of rfl, at_of rfl, at_of rfl, by omega, rfl⟩
  · rintro i φ s2 ⟨rfl, g0, g1, g12, g13, hi, ht⟩
    by_cases hlt : i < l.length
    · obtain ⟨x, he⟩ : ∃ e, l[i]? = some e := ⟨_, List.getElem?_eq_getElem hlt⟩
      obtain ⟨y, he'⟩ : ∃ e, l'[i]? = some e := ⟨_, List.getElem?_eq_getElem (by omega)⟩
      have hx := map_get (f := pp) (i := i) he rfl
      have hy := map_get (f := pp) (i := i) he' rfl
      simp only [pp] at hx hy
      have htk := take_eq he he' ht
      repeat' (first|refine r_a ?_|refine stp ?_|refine r_l ?_|refine r_c ?_|refine r_t fun _=>?_|refine r_f fun _=>?_|refine r_m (fun _=>?_) fun _=>?_|refine stq ?_|refine r_i ?_|refine r_x ?_)
      refine s_eqis rfl (fun hne => ?_) (fun heq => ?_)
      ·
        repeat' (first|refine r_a ?_|refine stp ?_|refine r_l ?_|refine r_c ?_|refine r_t fun _=>?_|refine r_f fun _=>?_|refine r_m (fun _=>?_) fun _=>?_|refine stq ?_|refine r_i ?_|refine r_x ?_)
        refine s_ret rfl ?_
        exact hk.2 (htk.2 hne)
      ·
        repeat' (first|refine r_a ?_|refine stp ?_|refine r_l ?_|refine r_c ?_|refine r_t fun _=>?_|refine r_f fun _=>?_|refine r_m (fun _=>?_) fun _=>?_|refine stq ?_|refine r_i ?_|refine r_x ?_)
        exact ⟨i + 1, by omega, rfl, at_of rfl, at_of rfl, at_of rfl, at_of rfl, by omega, htk.1 heq⟩
    ·
      repeat' (first|refine r_a ?_|refine stp ?_|refine r_l ?_|refine r_c ?_|refine r_t fun _=>?_|refine r_f fun _=>?_|refine r_m (fun _=>?_) fun _=>?_|refine stq ?_|refine r_i ?_|refine r_x ?_)
      rw [List.take_of_length_le (by omega), List.take_of_length_le (by omega)] at ht
      exact ⟨rfl, ht⟩
  · rintro φ s2 ⟨rfl, ht⟩
    repeat' (first|refine r_a ?_|refine stp ?_|refine r_l ?_|refine r_c ?_|refine r_t fun _=>?_|refine r_f fun _=>?_|refine r_m (fun _=>?_) fun _=>?_|refine stq ?_|refine r_i ?_|refine r_x ?_)
    refine s_ret rfl ?_
    exact hk.1 ht

theorem c_Eq34 {s : St} {a a' : AV} {l l' : List (Int)} {k : AV → St → Prop} (hF : s.Fr) (ha : Ls a 1 (l.map pk)) (ha' : Ls a' 1 (l'.map pk)) (hll : l.length ≤ 4611686018427387904)
    (hk : ∀ s', Up s s' [] → (l = l' → k (.bool true) s') ∧ (l ≠ l' → k (.bool false) s')) : Cal (EV kn) 34 [a, a'] s k := by
  refine cal_fn rfl (f := 34) rfl rfl ?_
  have h1 : (l.map pk).length = l.length := by simp
  have h2 : (l'.map pk).length = l'.length := by simp
  have hk := hk _ ((Up.refl hF).out .none)
  repeat' (first|refine r_a ?_|refine stp ?_|refine r_l ?_|refine r_c ?_|refine r_t fun _=>?_|refine r_f fun _=>?_|refine r_m (fun _=>?_) fun _=>?_|refine stq ?_|refine r_i ?_|refine r_x ?_)
  · refine s_ret rfl ?_
    exact hk.2 (fun e => by subst e; omega)
  rename_i hle
  refine s_lpj (fun (i : Nat) φ s2 => s2 = s ∧ At φ 0 a true ∧ At φ 1 a' true ∧ At φ 12 (.int .i64 ((l.map pk).length : Int)) true ∧ At φ 13 (.int .i64 i) true ∧ i ≤ l.length ∧ l.take i = l'.take i) (fun i => l.length - i)
    (fun φ s2 => s2 = s ∧ l = l') 0 ?_ ?_ ?_
  · exact ⟨rfl, at_of rfl, at_of rfl, at_of rfl, at_of rfl, by omega, rfl⟩
  · rintro i φ s2 ⟨rfl, g0, g1, g12, g13, hi, ht⟩
    by_cases hlt : i < l.length
    · obtain ⟨x, he⟩ : ∃ e, l[i]? = some e := ⟨_, List.getElem?_eq_getElem hlt⟩
      obtain ⟨y, he'⟩ : ∃ e, l'[i]? = some e := ⟨_, List.getElem?_eq_getElem (by omega)⟩
      have hx := map_get (f := pk) (i := i) he rfl
      have hy := map_get (f := pk) (i := i) he' rfl
      simp only [pk] at hx hy
      have htk := take_eq he he' ht
      repeat' (first|refine r_a ?_|refine stp ?_|refine r_l ?_|refine r_c ?_|refine r_t fun _=>?_|refine r_f fun _=>?_|refine r_m (fun _=>?_) fun _=>?_|refine stq ?_|refine r_i ?_|refine r_x ?_)
      · rename_i hne
        refine s_ret rfl ?_
        exact hk.2 (htk.2 hne)
      · rename_i heq
        exact ⟨i + 1, by omega, rfl, at_of rfl, at_of rfl, at_of rfl, at_of rfl, by omega, htk.1 heq⟩
    ·
      repeat' (first|refine r_a ?_|refine stp ?_|refine r_l ?_|refine r_c ?_|refine r_t fun _=>?_|refine r_f fun _=>?_|refine r_m (fun _=>?_) fun _=>?_|refine stq ?_|refine r_i ?_|refine r_x ?_)
      rw [List.take_of_length_le (by omega), List.take_of_length_le (by omega)] at ht
      exact ⟨rfl, ht⟩
  · rintro φ s2 ⟨rfl, ht⟩
    repeat' (first|refine r_a ?_|refine stp ?_|refine r_l ?_|refine r_c ?_|refine r_t fun _=>?_|refine r_f fun _=>?_|refine r_m (fun _=>?_) fun _=>?_|refine stq ?_|refine r_i ?_|refine r_x ?_)
    refine s_ret rfl ?_
    exact hk.1 ht

theorem c_Equal {s : St} {x y : Sh} {a b c d a' b' c' d' : AV} {k : AV → St → Prop} (hF : s.Fr) (ha : Ls a 2 (x.vars.map pv)) (hb : Ls b 1 (x.lines.map AV.str)) (hc : Ls c 2 (x.parts.map pp)) (hd : Ls d 1 (x.kids.map pk))
    (ha' : Ls a' 2 (y.vars.map pv)) (hb' : Ls b' 1 (y.lines.map AV.str)) (hc' : Ls c' 2 (y.parts.map pp)) (hd' : Ls d' 1 (y.kids.map pk)) (h1 : x.vars.length ≤ 4611686018427387904) (h2 : x.lines.length ≤ 4611686018427387904) (h3 : x.parts.length ≤ 4611686018427387904) (h4 : x.kids.length ≤ 4611686018427387904)
    (hk : ∀ s', Up s s' [] → (x = y → k (.bool true) s') ∧ (x ≠ y → k (.bool false) s')) : Cal (EV kn) 11 [.agg [a, .int .i64 x.status, b, c, .bool x.bg, d], .agg [a', .int .i64 y.status, b', c', .bool y.bg, d']] s k := by
  refine cal_fn rfl (f := 11) rfl rfl ?_
  obtain ⟨xv, xs, xl, xp, xb, xk⟩ := x
  obtain ⟨yv, ys, yl, yp, yb, yk⟩ := y
  simp only at ha hb hc hd ha' hb' hc' hd' h1 h2 h3 h4 hk ⊢
  repeat' (first|refine r_a ?_|refine stp ?_|refine r_l ?_|refine r_c ?_|refine r_t fun _=>?_|refine r_f fun _=>?_|refine r_m (fun _=>?_) fun _=>?_|refine stq ?_|refine r_i ?_|refine r_x ?_)
  refine s_bx rfl hF fun s1 q hU1 hq hql => ?_
  repeat' (first|refine r_a ?_|refine stp ?_|refine r_l ?_|refine r_c ?_|refine r_t fun _=>?_|refine r_f fun _=>?_|refine r_m (fun _=>?_) fun _=>?_|refine stq ?_|refine r_i ?_|refine r_x ?_)
  refine s_bx rfl hU1.fr fun s2 q' hU2 hq' hql' => ?_
  replace hq := hU2.at0 hU1.fr hq
  have hUs := hU1.then0 hU2
  repeat' (first|refine r_a ?_|refine stp ?_|refine r_l ?_|refine r_c ?_|refine r_t fun _=>?_|refine r_f fun _=>?_|refine r_m (fun _=>?_) fun _=>?_|refine stq ?_|refine r_i ?_|refine r_x ?_)
  refine s_k rfl (c_Eq31 hUs.fr ha ha' h1 fun s3 hU3 => ⟨fun e1 => ?_, fun e1 => ?_⟩)
  rotate_left
  · have hUs := hUs.then0 hU3
    repeat' (first|refine r_a ?_|refine stp ?_|refine r_l ?_|refine r_c ?_|refine r_t fun _=>?_|refine r_f fun _=>?_|refine r_m (fun _=>?_) fun _=>?_|refine stq ?_|refine r_i ?_|refine r_x ?_)
    refine s_ret rfl ?_
    exact (hk _ (hUs.out .none)).2 (fun e => by cases e; exact e1 rfl)
  replace hq := hU3.at0 hUs.fr hq
  replace hq' := hU3.at0 hUs.fr hq'
  replace hUs := hUs.then0 hU3
  repeat' (first|refine r_a ?_|refine stp ?_|refine r_l ?_|refine r_c ?_|refine r_t fun _=>?_|refine r_f fun _=>?_|refine r_m (fun _=>?_) fun _=>?_|refine stq ?_|refine r_i ?_|refine r_x ?_)
  rotate_left
  · rename_i e2
    refine s_ret rfl ?_
    exact (hk _ (hUs.out .none)).2 (fun e => by cases e; exact e2 rfl)
  rename_i e2
  refine s_kg rfl (c_Eq32 hUs.fr hb hb' h2 fun s4 hU4 => ⟨fun e3 => ?_, fun e3 => ?_⟩)
  rotate_left
  · have hUs := hUs.then0 hU4
    repeat' (first|refine r_a ?_|refine stp ?_|refine r_l ?_|refine r_c ?_|refine r_t fun _=>?_|refine r_f fun _=>?_|refine r_m (fun _=>?_) fun _=>?_|refine stq ?_|refine r_i ?_|refine r_x ?_)
    refine s_ret rfl ?_
    exact (hk _ (hUs.out .none)).2 (fun e => by cases e; exact e3 rfl)
  replace hq := hU4.at0 hUs.fr hq
  replace hq' := hU4.at0 hUs.fr hq'
  replace hUs := hUs.then0 hU4
  repeat' (first|refine r_a ?_|refine stp ?_|refine r_l ?_|refine r_c ?_|refine r_t fun _=>?_|refine r_f fun _=>?_|refine r_m (fun _=>?_) fun _=>?_|refine stq ?_|refine r_i ?_|refine r_x ?_)
  refine s_kg rfl (c_Eq33 hUs.fr hc hc' h3 fun s5 hU5 => ⟨fun e4 => ?_, fun e4 => ?_⟩)
  rotate_left
  · have hUs := hUs.then0 hU5
    repeat' (first|refine r_a ?_|refine stp ?_|refine r_l ?_|refine r_c ?_|refine r_t fun _=>?_|refine r_f fun _=>?_|refine r_m (fun _=>?_) fun _=>?_|refine stq ?_|refine r_i ?_|refine r_x ?_)
    refine s_ret rfl ?_
    exact (hk _ (hUs.out .none)).2 (fun e => by cases e; exact e4 rfl)
  replace hq := hU5.at0 hUs.fr hq
  replace hq' := hU5.at0 hUs.fr hq'
  replace hUs := hUs.then0 hU5
  repeat' (first|refine r_a ?_|refine stp ?_|refine r_l ?_|refine r_c ?_|refine r_t fun _=>?_|refine r_f fun _=>?_|refine r_m (fun _=>?_) fun _=>?_|refine stq ?_|refine r_i ?_|refine r_x ?_)
  generalize hbg : (xb == yb) = bb
  cases bb
  ·
    repeat' (first|refine r_a ?_|refine stp ?_|refine r_l ?_|refine r_c ?_|refine r_t fun _=>?_|refine r_f fun _=>?_|refine r_m (fun _=>?_) fun _=>?_|refine stq ?_|refine r_i ?_|refine r_x ?_)
    refine s_ret rfl ?_
    exact (hk _ (hUs.out .none)).2 (fun e => by cases e; simp at hbg)
  ·
    repeat' (first|refine r_a ?_|refine stp ?_|refine r_l ?_|refine r_c ?_|refine r_t fun _=>?_|refine r_f fun _=>?_|refine r_m (fun _=>?_) fun _=>?_|refine stq ?_|refine r_i ?_|refine r_x ?_)
    refine s_kg rfl (c_Eq34 hUs.fr hd hd' h4 fun s6 hU6 => ⟨fun e5 => ?_, fun e5 => ?_⟩)
    · replace hUs := hUs.then0 hU6
      repeat' (first|refine r_a ?_|refine stp ?_|refine r_l ?_|refine r_c ?_|refine r_t fun _=>?_|refine r_f fun _=>?_|refine r_m (fun _=>?_) fun _=>?_|refine stq ?_|refine r_i ?_|refine r_x ?_)
      refine s_ret rfl ?_
      exact (hk _ (hUs.out .none)).1 (by rw [e1, e2, e3, e4, e5, (beq_iff_eq.1 hbg)])
    · replace hUs := hUs.then0 hU6
      repeat' (first|refine r_a ?_|refine stp ?_|refine r_l ?_|refine r_c ?_|refine r_t fun _=>?_|refine r_f fun _=>?_|refine r_m (fun _=>?_) fun _=>?_|refine stq ?_|refine r_i ?_|refine r_x ?_)
      refine s_ret rfl ?_
      exact (hk _ (hUs.out .none)).2 (fun e => by cases e; exact e5 rfl)
end Go.Am

namespace Go.Am
open T
attribute [local irreducible] Wp WpO Cal Rt Then Blocked Slc Lq Jq upd' φ0 lst

variable {kn : List AV → St → Option (AV × St)}

/-- Reading n values one after another. -/
def rdI {α : Type} (f : Option (List Nat) → α × Option (List Nat)) : Nat → Option (List Nat) → List α × Option (List Nat)
  | 0, o => ([], o)
  | n + 1, o => ((rdI f n o).1 ++ [(f (rdI f n o).2).1], (f (rdI f n o).2).2)

theorem rdI_len {α : Type} (f : Option (List Nat) → α × Option (List Nat)) (n : Nat) (o : Option (List Nat)) : (rdI f n o).1.length = n := by
  induction n with
  | zero => rfl
  | succ n ih => simp only [rdI, List.length_append, ih, List.length_cons, List.length_nil]

def rdV (m1 m2 : Nat) (o : Option (List Nat)) : (List Nat × List Nat) × Option (List Nat) :=
  (((rd (pText m1) [] o).1, (rd (pText m2) [] (rd (pText m1) [] o).2).1), (rd (pText m2) [] (rd (pText m1) [] o).2).2)
def rdP (m : Nat) (o : Option (List Nat)) : (Int × List Nat) × Option (List Nat) :=
  ((((rd (pNum 2) 0 o).1 : Nat), (rd (pText m) [] (rd (pNum 2) 0 o).2).1), (rd (pText m) [] (rd (pNum 2) 0 o).2).2)
def rdK (o : Option (List Nat)) : Int × Option (List Nat) := (((rd (pNum 999999) 0 o).1 : Nat), (rd (pNum 999999) 0 o).2)

theorem pNum_most {most : Nat} {b : List Nat} {u n : Nat} (h : pNum most b = some (u, n)) : u ≤ most := by
  unfold pNum at h
  cases hp : parseN b with
  | none => rw [hp] at h; cases h
  | some q =>
    obtain ⟨x, y⟩ := q
    rw [hp] at h; simp only at h
    split at h
    · cases h; assumption
    · cases h
theorem rdN_le (most : Nat) (o : Option (List Nat)) : (rd (pNum most) 0 o).1 ≤ most := by
  cases o with
  | none => simp [rd]
  | some b =>
    simp only [rd]
    split
    · simp
    · rename_i h; exact pNum_most h
theorem pText_most {most : Nat} {b u : List Nat} {n : Nat} (h : pText most b = some (u, n)) : u.length ≤ most ∧ ∀ c ∈ u, c ∈ b := by
  unfold pText at h
  cases hp : parseN b with
  | none => rw [hp] at h; cases h
  | some q =>
    obtain ⟨x, y⟩ := q
    rw [hp] at h; simp only at h
    split at h
    · cases h
      refine ⟨by rw [List.length_take, List.length_drop]; omega, fun c hc => List.mem_of_mem_drop (List.mem_of_mem_take hc)⟩
    · cases h
theorem rdT_le (most : Nat) (o : Option (List Nat)) : (rd (pText most) [] o).1.length ≤ most := by
  cases o with
  | none => simp [rd]
  | some b =>
    simp only [rd]
    split
    · simp
    · rename_i h; exact (pText_most h).1

/-- A reader at work, beside objects that stay and a slice that grows. -/
structure DS (s0 s : St) (r : Nat) (o : Option (List Nat)) (L : List (Nat × Nat × List AV)) (ty sz : Nat) (v : AV) (xs : List AV) : Prop where
  up : Up s0 s []
  rs : RS s r o
  rn : s0.next ≤ r
  kp : ∀ e ∈ L, look s.objs e.1 = some (.cells e.2.1 e.2.2) ∧ e.2.1 ≠ 131 ∧ s0.next ≤ e.1
  nd : (L.map Prod.fst).Nodup
  sl : ∃ W, Slc s ty sz v xs W ∧ ∀ i ∈ W, s0.next ≤ i

section
variable {s0 s s' : St} {r : Nat} {o : Option (List Nat)} {L : List (Nat × Nat × List AV)} {ty sz : Nat} {v : AV} {xs : List AV}
theorem DS.fr (h : DS s0 s r o L ty sz v xs) : s.Fr := h.up.fr
theorem DS.at (h : DS s0 s r o L ty sz v xs) {q t : Nat} {cs : List AV} (hm : (q, t, cs) ∈ L) : look s.objs q = some (.cells t cs) := (h.kp _ hm).1
theorem DS.nil (h : DS s0 s r o L ty sz v xs) (ty' sz' : Nat) : DS s0 s r o L ty' sz' .nsl [] := ⟨h.up, h.rs, h.rn, h.kp, h.nd, [], Slc.nil, by simp⟩
theorem DS.tail {e : Nat × Nat × List AV} (h : DS s0 s r o (e :: L) ty sz v xs) : DS s0 s r o L ty sz v xs :=
  ⟨h.up, h.rs, h.rn, fun e he => h.kp e (.tail _ he), (List.nodup_cons.1 h.nd).2, h.sl⟩
theorem DS.up0 (h : DS s0 s r o L ty sz v xs) (hU : Up s s' []) : DS s0 s' r o L ty sz v xs :=
  ⟨h.up.then0 hU, h.rs.up h.fr hU (by simp), h.rn, fun e he => ⟨hU.at0 h.fr (h.kp e he).1, (h.kp e he).2⟩, h.nd, let ⟨W, h1, h2⟩ := h.sl; ⟨W, h1.up h.fr hU (by simp), h2⟩⟩
theorem RS.look {s : St} (h : RS s r o) : ∃ cs, look s.objs r = some (.cells 131 cs) := by
  cases o with
  | some b => obtain ⟨⟨v, a, h, _⟩, _⟩ := h; exact ⟨_, h⟩
  | none => obtain ⟨b, e, _, v, a, h, _⟩ := h; exact ⟨_, h⟩
theorem DS.read (h : DS s0 s r o L ty sz v xs) {o' : Option (List Nat)} (hU : Up s s' [r]) (h' : RS s' r o') : DS s0 s' r o' L ty sz v xs :=
  ⟨h.up.own1 hU h.rn, h', h.rn, fun e he => ⟨hU.at1 h.fr (h.kp e he).1 (h.rs.ne (h.kp e he).1 (h.kp e he).2.1), (h.kp e he).2⟩, h.nd, by
    obtain ⟨W, h1, h2⟩ := h.sl
    obtain ⟨cs, hl⟩ := h.rs.look
    exact ⟨W, h1.up h.fr hU (fun i hi he => h1.ne hl rfl (by simp at he; rw [← he]; exact hi)), h2⟩⟩
theorem DS.num {most : Nat} {k : AV → St → Prop} (h : DS s0 s r o L ty sz v xs) (hk : ∀ s', DS s0 s' r (rd (pNum most) 0 o).2 L ty sz v xs → k (.int .i64 ((rd (pNum most) 0 o).1 : Nat)) s') : Cal (EV kn) 37 [.ptr r 0, .int .i64 most] s k :=
  c_RNumber h.fr h.rs fun s' hU h' => hk s' (h.read hU h')
theorem DS.text {most : Nat} {k : AV → St → Prop} (h : DS s0 s r o L ty sz v xs) (hk : ∀ s', DS s0 s' r (rd (pText most) [] o).2 L ty sz v xs → k (.str (rd (pText most) [] o).1) s') : Cal (EV kn) 38 [.ptr r 0, .int .i64 most] s k :=
  c_RText h.fr h.rs fun s' hU h' => hk s' (h.read hU h')
theorem DS.flag {k : AV → St → Prop} (h : DS s0 s r o L ty sz v xs) (hk : ∀ s', DS s0 s' r (rd pFlag false o).2 L ty sz v xs → k (.bool (rd pFlag false o).1) s') : Cal (EV kn) 39 [.ptr r 0] s k :=
  c_RFlag h.fr h.rs fun s' hU h' => hk s' (h.read hU h')
/-- A new variable. -/
theorem DS.al {p t : Nat} {cs : List AV} (h : DS s0 s r o L ty sz v xs) (hU : Up s s' []) (hl : look s'.objs p = some (.cells t cs)) (hp : s.next ≤ p) (ht : t ≠ 131) : DS s0 s' r o ((p, t, cs) :: L) ty sz v xs := by
  have h' := h.up0 hU
  refine ⟨h'.up, h'.rs, h'.rn, fun e he => ?_, ?_, h'.sl⟩
  · rcases List.mem_cons.1 he with rfl | he
    · exact ⟨hl, ht, Nat.le_trans h.up.le hp⟩
    · exact h'.kp e he
  · rw [List.map_cons, List.nodup_cons]
    refine ⟨fun hm => ?_, h.nd⟩
    obtain ⟨e, he, e2⟩ := List.mem_map.1 hm
    have := h.fr.lt (h.kp e he).1
    simp only at e2; omega
theorem DS.set_aux {q t t' : Nat} {cs : List AV} {M : List (Nat × Nat × List AV)} (h : DS s0 s r o L ty sz v xs) (hq : look s.objs q = some (.cells t' cs)) (hqr : q ≠ r) (hqn : s0.next ≤ q) (hU : Up s s' [q]) : Up s0 s' [] ∧ RS s' r o ∧ (∃ W, Slc s' ty sz v xs W ∧ ∀ i ∈ W, s0.next ≤ i) := by
  obtain ⟨W, h1, h2⟩ := h.sl
  refine ⟨h.up.own1 hU hqn, h.rs.up h.fr hU (by simpa using Ne.symm hqr), W, h1.up h.fr hU (fun i hi he => h1.ne hq rfl (by simp at he; rw [← he]; exact hi)), h2⟩
/-- A variable is set. -/
theorem DS.set0 {q t t' : Nat} {cs cs' : List AV} (h : DS s0 s r o ((q, t, cs) :: L) ty sz v xs) (hU : Up s s' [q]) (hl : look s'.objs q = some (.cells t' cs')) (ht : t' ≠ 131) : DS s0 s' r o ((q, t', cs') :: L) ty sz v xs := by
  have hq := h.kp _ (.head _)
  obtain ⟨k1, k2, k3⟩ := h.set_aux (t := t) (M := []) hq.1 (h.rs.ne hq.1 hq.2.1) hq.2.2 hU
  refine ⟨k1, k2, h.rn, fun e he => ?_, h.nd, k3⟩
  rcases List.mem_cons.1 he with rfl | he
  · exact ⟨hl, ht, hq.2.2⟩
  · have he' := h.kp e (.tail _ he)
    refine ⟨hU.at1 h.fr he'.1 (fun x => ?_), he'.2⟩
    have := (List.nodup_cons.1 h.nd).1
    exact this (List.mem_map.2 ⟨e, he, x⟩)
theorem DS.set1 {q t t' : Nat} {cs cs' : List AV} {e0 : Nat × Nat × List AV} (h : DS s0 s r o (e0 :: (q, t, cs) :: L) ty sz v xs) (hU : Up s s' [q]) (hl : look s'.objs q = some (.cells t' cs')) (ht : t' ≠ 131) : DS s0 s' r o (e0 :: (q, t', cs') :: L) ty sz v xs := by
  have hq := h.kp _ (.tail _ (.head _))
  obtain ⟨k1, k2, k3⟩ := h.set_aux (t := t) (M := []) hq.1 (h.rs.ne hq.1 hq.2.1) hq.2.2 hU
  have hnd := h.nd
  simp only [List.map_cons, List.nodup_cons] at hnd
  refine ⟨k1, k2, h.rn, fun e he => ?_, h.nd, k3⟩
  rcases List.mem_cons.1 he with rfl | he
  · have he' := h.kp e (.head _)
    refine ⟨hU.at1 h.fr he'.1 (fun x => ?_), he'.2⟩
    exact hnd.1 (by rw [x]; exact .head _)
  · rcases List.mem_cons.1 he with rfl | he
    · exact ⟨hl, ht, hq.2.2⟩
    · have he' := h.kp e (.tail _ (.tail _ he))
      refine ⟨hU.at1 h.fr he'.1 (fun x => ?_), he'.2⟩
      exact hnd.2.1 (List.mem_map.2 ⟨e, he, x⟩)
end

section
variable {E : Env} {N : Nat} {φ : Nat → AV} {s0 s : St} {K : (Nat → AV) → St → Prop} {d r : Nat} {l : List IStmt} {o : Option (List Nat)} {L : List (Nat × Nat × List AV)} {ty sz : Nat} {v : AV} {xs : List AV}
theorem d_app {bytes : Nat} {ag : Bool} {x y : Opd} {b : AV} {ys : List AV} {c c' : Bool} [h0 : Ev N φ x v c] [h1 : Ev N φ y b c'] (hc : (c && c') = true) (hD : DS s0 s r o L ty sz v xs)
    (hy : elems s.objs ag sz b = some ys) (hlen : (xs.length + ys.length) * (bytes + 1) ≤ maxL) (hall : (ys.all fun v => v.nt && decide (v.cells.length = sz)) = true)
    (h : ∀ v' s', DS s0 s' r o L ty sz v' (xs ++ ys) → Cel v' 1 [v'] → Ls v' sz (xs ++ ys) → WpO E N l (upd' φ d v') s' K) : WpO E N (.op (some d) none (.app 1 ty sz bytes ag x y) :: l) φ s K := by
  obtain ⟨W, hS, hW⟩ := hD.sl
  refine s_app hc hD.fr hS hy hlen hall fun v' s' W' hU hS' hN => h v' s' ⟨hD.up.own hU hW, ?_, hD.rn, fun e he => ⟨hU.at hD.fr (hD.kp e he).1 (hS.ne (hD.kp e he).1 rfl), (hD.kp e he).2⟩, hD.nd, W', hS', fun i hi => ?_⟩ hS'.cel hS'.ls
  · obtain ⟨cs, hl⟩ := hD.rs.look
    exact hD.rs.up hD.fr hU (hS.ne hl rfl)
  · rcases hN i hi with h | h
    · exact hW i h
    · exact Nat.le_trans hD.up.le h
theorem d_mk1 {ty' sz' : Nat} {zero w : AV} {x : Opd} {cs : List AV} {c : Bool} [h0 : Ev N φ x w c] (hc : c = true) [h1 : Cel w sz' cs] (hz : (zero.nt && (decide (zero.cells.length = sz') && decide (0 < sz'))) = true) (hD : DS s0 s r o L ty sz v xs)
    (h : ∀ s' t, DS s0 s' r o L ty sz v xs → WpO E N l (upd' φ d (.sl t sz' [w])) s' K) : WpO E N (.op (some d) none (.mksl true ty' sz' zero 1 [(0, x)]) :: l) φ s K :=
  s_mk1 hc hz hD.fr fun s' t hU _ _ => h s' t (hD.up0 hU)
end

/-- The state that a text stands for; how much is left. -/
def dec (m1 m2 m3 m4 : Nat) (o : Option (List Nat)) : Sh × Option (List Nat) :=
  let n1 := rd (pNum 32) 0 o
  let vs := rdI (rdV m1 m2) n1.1 n1.2
  let st := rd (pNum 999) 0 vs.2
  let n2 := rd (pNum 1024) 0 st.2
  let ls := rdI (rd (pText m3) []) n2.1 n2.2
  let n3 := rd (pNum 16) 0 ls.2
  let ps := rdI (rdP m4) n3.1 n3.2
  let fl := rd pFlag false ps.2
  let n4 := rd (pNum 8) 0 fl.2
  let ks := rdI rdK n4.1 n4.2
  (⟨vs.1, (st.1 : Nat), ls.1, ps.1, fl.1, ks.1⟩, ks.2)

def Sh.zero : Sh := ⟨[], 0, [], [], false, []⟩
def Sh.good' (r : Sh × Option (List Nat)) : Prop := r.2 = some [] ∧ r.1.check = 0
end Go.Am

/- The shell's state: its checks. The shell's state: Check. The shell's state: Check. The shell's state: Check of lines and parts. -/
import Derived.Test.YtjacmplknlploaaGreatDoorW14
set_option linter.all false
namespace Go.Am
open T
attribute [local irreducible] Wp WpO Cal Rt Then Blocked Slc Lq Jq upd' φ0 lst

variable {kn : List AV → St → Option (AV × St)}

def isL (c : Nat) : Bool := (decide (65 ≤ c) && decide (c ≤ 90)) || ((decide (97 ≤ c) && decide (c ≤ 122)) || decide (c = 95))
def isA (c : Nat) : Bool := isL c || (decide (48 ≤ c) && decide (c ≤ 57))

theorem c_isLetter {s : St} {c : Nat} {k : AV → St → Prop} (hF : s.Fr) (hk : ∀ s', Up s s' [] → k (.bool (isL c)) s') : Cal (EV kn) 41 [.int .u8 c] s k := by
  refine cal_fn rfl (f := 41) rfl rfl ?_
  repeat' (first|refine r_a ?_|refine stp ?_|refine r_l ?_|refine r_c ?_|refine r_t fun _=>?_|refine r_f fun _=>?_|refine r_m (fun _=>?_) fun _=>?_|refine stq ?_|refine r_i ?_|refine r_x ?_)
  all_goals
    refine s_ret rfl ?_
    have := hk _ ((Up.refl hF).out .none)
    first
      | rw [show isL c = true by simp [isL]; omega] at this; exact this
      | rw [show isL c = false by simp [isL]; omega] at this; exact this

theorem c_isAlphanumeric {s : St} {c : Nat} {k : AV → St → Prop} (hF : s.Fr) (hk : ∀ s', Up s s' [] → k (.bool (isA c)) s') : Cal (EV kn) 42 [.int .u8 c] s k := by
  refine cal_fn rfl (f := 42) rfl rfl ?_
  repeat' (first|refine r_a ?_|refine stp ?_|refine r_l ?_|refine r_c ?_|refine r_t fun _=>?_|refine r_f fun _=>?_|refine r_m (fun _=>?_) fun _=>?_|refine stq ?_|refine r_i ?_|refine r_x ?_)
  refine s_k rfl (c_isLetter hF fun s' hU => ?_)
  have hk' := hk _ (hU.out .none)
  unfold isA at hk'
  cases hL : isL c
  all_goals
    rw [hL] at hk'
    repeat' (first|refine r_a ?_|refine stp ?_|refine r_l ?_|refine r_c ?_|refine r_t fun _=>?_|refine r_f fun _=>?_|refine r_m (fun _=>?_) fun _=>?_|refine stq ?_|refine r_i ?_|refine r_x ?_)
    all_goals
      refine s_ret rfl ?_
      first
        | exact hk'
        | rw [show (false || decide (48 ≤ c) && decide (c ≤ 57)) = true by simp; omega] at hk'; exact hk'
        | rw [show (false || decide (48 ≤ c) && decide (c ≤ 57)) = false by simp; omega] at hk'; exact hk'

/-- The name of a variable. -/
def isVar (n : List Nat) : Bool :=
  match n with
  | [] => false
  | c :: _ => decide (n.length ≤ 16) && (isL c && n.all isA)

theorem c_IsVariable {s : St} {n : List Nat} {k : AV → St → Prop} (hF : s.Fr) (hk : ∀ s', Up s s' [] → k (.bool (isVar n)) s') : Cal (EV kn) 17 [.str n] s k := by
  refine cal_fn rfl (f := 17) rfl rfl ?_
  cases n with
  | nil =>
    repeat' (first|refine r_a ?_|refine stp ?_|refine r_l ?_|refine r_c ?_|refine r_t fun _=>?_|refine r_f fun _=>?_|refine r_m (fun _=>?_) fun _=>?_|refine stq ?_|refine r_i ?_|refine r_x ?_)
    · refine s_ret rfl ?_
      exact hk _ ((Up.refl hF).out .none)
    all_goals contradiction
  | cons c r =>
    have hx : (c :: r)[(0 : Int).toNat]? = some c := rfl
    repeat' (first|refine r_a ?_|refine stp ?_|refine r_l ?_|refine r_c ?_|refine r_t fun _=>?_|refine r_f fun _=>?_|refine r_m (fun _=>?_) fun _=>?_|refine stq ?_|refine r_i ?_|refine r_x ?_)
    · contradiction
    · refine s_ret rfl ?_
      have := hk _ ((Up.refl hF).out .none)
      rw [show isVar (c :: r) = false by simp only [isVar]; rw [decide_eq_false (by omega)]; rfl] at this; exact this
    · refine s_kg rfl (c_isLetter hF fun s' hU => ?_)
      have hk' := hk _ (hU.out .none)
      cases hL : isL c
      ·
        repeat' (first|refine r_a ?_|refine stp ?_|refine r_l ?_|refine r_c ?_|refine r_t fun _=>?_|refine r_f fun _=>?_|refine r_m (fun _=>?_) fun _=>?_|refine stq ?_|refine r_i ?_|refine r_x ?_)
        refine s_ret rfl ?_
        rw [show isVar (c :: r) = false by simp [isVar, hL]] at hk'
        exact hk'
      ·
        repeat' (first|refine r_a ?_|refine stp ?_|refine r_l ?_|refine r_c ?_|refine r_t fun _=>?_|refine r_f fun _=>?_|refine r_m (fun _=>?_) fun _=>?_|refine stq ?_|refine r_i ?_|refine r_x ?_)
        refine s_lpj (fun (i : Nat) φ s1 => Up s s1 [] ∧ At φ 0 (.str (c :: r)) true ∧ At φ 18 (.int .i64 ((c :: r).length : Int)) true ∧ At φ 19 (.int .i64 i) true ∧ i ≤ (c :: r).length ∧ ((c :: r).take i).all isA = true) (fun i => (c :: r).length - i)
          (fun φ s1 => Up s s1 [] ∧ (c :: r).all isA = true) 0 ?_ ?_ ?_
        · exact ⟨hU, at_of rfl, at_of rfl, at_of rfl, by omega, rfl⟩
        · rintro i φ s1 ⟨hU1, g0, g18, g19, hi, hall⟩
          by_cases hlt : i < (c :: r).length
          · obtain ⟨e, he⟩ : ∃ e, (c :: r)[i]? = some e := ⟨_, List.getElem?_eq_getElem hlt⟩
            have hx1 : (c :: r)[((i : Nat) : Int).toNat]? = some e := by rw [Int.toNat_natCast]; exact he
            clear hx
            repeat' (first|refine r_a ?_|refine stp ?_|refine r_l ?_|refine r_c ?_|refine r_t fun _=>?_|refine r_f fun _=>?_|refine r_m (fun _=>?_) fun _=>?_|refine stq ?_|refine r_i ?_|refine r_x ?_)
            refine s_k rfl (c_isAlphanumeric hU1.fr fun s2 hU2 => ?_)
            have hta : ((c :: r).take (i + 1)).all isA = isA e := by rw [List.take_add_one, he]; simp [hall]
            cases hA : isA e
            ·
              repeat' (first|refine r_a ?_|refine stp ?_|refine r_l ?_|refine r_c ?_|refine r_t fun _=>?_|refine r_f fun _=>?_|refine r_m (fun _=>?_) fun _=>?_|refine stq ?_|refine r_i ?_|refine r_x ?_)
              refine s_ret rfl ?_
              have hf : isVar (c :: r) = false := by
                have : ((c :: r).take (i + 1)).all isA = false := by rw [hta, hA]
                have h2 : (c :: r).all isA = false := by
                  rw [List.all_eq_false] at this ⊢
                  obtain ⟨x, hm, hx⟩ := this
                  exact ⟨x, List.mem_of_mem_take hm, hx⟩
                simp only [isVar, h2, Bool.and_false]
              have := hk _ ((hU1.then0 hU2).out .none)
              rw [hf] at this
              exact this
            ·
              repeat' (first|refine r_a ?_|refine stp ?_|refine r_l ?_|refine r_c ?_|refine r_t fun _=>?_|refine r_f fun _=>?_|refine r_m (fun _=>?_) fun _=>?_|refine stq ?_|refine r_i ?_|refine r_x ?_)
              exact ⟨i + 1, by omega, hU1.then0 hU2, at_of rfl, at_of rfl, at_of rfl, by omega, by rw [hta, hA]⟩
          ·
            repeat' (first|refine r_a ?_|refine stp ?_|refine r_l ?_|refine r_c ?_|refine r_t fun _=>?_|refine r_f fun _=>?_|refine r_m (fun _=>?_) fun _=>?_|refine stq ?_|refine r_i ?_|refine r_x ?_)
            refine ⟨hU1, ?_⟩
            rw [List.take_of_length_le (by omega)] at hall; exact hall
        · rintro φ s1 ⟨hU1, hall⟩
          repeat' (first|refine r_a ?_|refine stp ?_|refine r_l ?_|refine r_c ?_|refine r_t fun _=>?_|refine r_f fun _=>?_|refine r_m (fun _=>?_) fun _=>?_|refine stq ?_|refine r_i ?_|refine r_x ?_)
          refine s_ret rfl ?_
          have := hk _ (hU1.out .none)
          rw [show isVar (c :: r) = true by simp only [isVar, hL, hall, Bool.and_true]; exact decide_eq_true (by omega)] at this
          exact this
end Go.Am

namespace Go.Am
open T
attribute [local irreducible] Wp WpO Cal Rt Then Blocked Slc Lq Jq upd' φ0 lst

variable {kn : List AV → St → Option (AV × St)}

theorem idxN_ge (b : List Nat) (c : Nat) : 0 ≤ idxN b c ↔ c ∈ b := by
  induction b with
  | nil => simp [idxN]
  | cons x l ih =>
    simp only [idxN]
    by_cases h : x = c
    · simp [h]
    · have hm : (c ∈ x :: l) ↔ c ∈ l := by simp [Ne.symm h]
      have hb : Nat.beq x c = false := by
        cases hb : Nat.beq x c with
        | false => rfl
        | true => exact absurd (Nat.eq_of_beq_eq_true hb) h
      rw [hm, hb, ← ih]
      simp only [cond_false]
      split
      · rename_i n e
        rw [e]
        exact ⟨fun _ => Int.natCast_nonneg _, fun _ => Int.natCast_nonneg _⟩
      · rfl

theorem c_IndexByte {s : St} {b : List Nat} {k : AV → St → Prop} (hF : s.Fr) (hk : ∀ s' i, Up s s' [] → (0 ≤ i ↔ 10 ∈ b) → k (.int .i64 i) s') : Cal (EV kn) 288 [.str b, .int .u8 10] s k := by
  refine cal_fn rfl (f := 288) rfl rfl ?_
  repeat' (first|refine r_a ?_|refine stp ?_|refine r_l ?_|refine r_c ?_|refine r_t fun _=>?_|refine r_f fun _=>?_|refine r_m (fun _=>?_) fun _=>?_|refine stq ?_|refine r_i ?_|refine r_x ?_)
  refine s_k rfl (cal_sp (h := spIdxB) rfl (v := .int .i64 (idxN b 10)) (s' := s) rfl ?_)
  repeat' (first|refine r_a ?_|refine stp ?_|refine r_l ?_|refine r_c ?_|refine r_t fun _=>?_|refine r_f fun _=>?_|refine r_m (fun _=>?_) fun _=>?_|refine stq ?_|refine r_i ?_|refine r_x ?_)
  refine s_ret rfl ?_
  exact hk _ _ ((Up.refl hF).out _) (idxN_ge b 10)

theorem c_Contains {s : St} {b : List Nat} {k : AV → St → Prop} (hF : s.Fr) (hk : ∀ s', Up s s' [] → k (.bool (decide (10 ∈ b))) s') : Cal (EV kn) 70 [.str b, .str [10]] s k := by
  refine cal_fn rfl (f := 70) rfl rfl ?_
  repeat' (first|refine r_a ?_|refine stp ?_|refine r_l ?_|refine r_c ?_|refine r_t fun _=>?_|refine r_f fun _=>?_|refine r_m (fun _=>?_) fun _=>?_|refine stq ?_|refine r_i ?_|refine r_x ?_)
  refine s_k rfl ?_
  refine cal_fn rfl (f := 140) rfl rfl ?_
  repeat' (first|refine r_a ?_|refine stp ?_|refine r_l ?_|refine r_c ?_|refine r_t fun _=>?_|refine r_f fun _=>?_|refine r_m (fun _=>?_) fun _=>?_|refine stq ?_|refine r_i ?_|refine r_x ?_)
  refine s_k rfl ?_
  refine cal_fn rfl (f := 214) rfl rfl ?_
  have hx : ([10] : List Nat)[(0 : Int).toNat]? = some 10 := rfl
  have h1 : ([10] : List Nat).length = 1 := rfl
  repeat' (first|refine r_a ?_|refine stp ?_|refine r_l ?_|refine r_c ?_|refine r_t fun _=>?_|refine r_f fun _=>?_|refine r_m (fun _=>?_) fun _=>?_|refine stq ?_|refine r_i ?_|refine r_x ?_)
  · rename_i e
    refine s_ret rfl ?_
    repeat' (first|refine r_a ?_|refine stp ?_|refine r_l ?_|refine r_c ?_|refine r_t fun _=>?_|refine r_f fun _=>?_|refine r_m (fun _=>?_) fun _=>?_|refine stq ?_|refine r_i ?_|refine r_x ?_)
    refine s_ret rfl ?_
    repeat' (first|refine r_a ?_|refine stp ?_|refine r_l ?_|refine r_c ?_|refine r_t fun _=>?_|refine r_f fun _=>?_|refine r_m (fun _=>?_) fun _=>?_|refine stq ?_|refine r_i ?_|refine r_x ?_)
    refine s_ret rfl ?_
    have := hk _ (((((Up.refl hF).out .none).out .none)).out .none)
    rw [show decide (10 ∈ b) = true by rw [← e]; rfl] at this
    exact this
  · refine s_k rfl (c_IndexByte hF fun s' i hU hi => ?_)
    repeat' (first|refine r_a ?_|refine stp ?_|refine r_l ?_|refine r_c ?_|refine r_t fun _=>?_|refine r_f fun _=>?_|refine r_m (fun _=>?_) fun _=>?_|refine stq ?_|refine r_i ?_|refine r_x ?_)
    refine s_ret rfl ?_
    repeat' (first|refine r_a ?_|refine stp ?_|refine r_l ?_|refine r_c ?_|refine r_t fun _=>?_|refine r_f fun _=>?_|refine r_m (fun _=>?_) fun _=>?_|refine stq ?_|refine r_i ?_|refine r_x ?_)
    refine s_ret rfl ?_
    repeat' (first|refine r_a ?_|refine stp ?_|refine r_l ?_|refine r_c ?_|refine r_t fun _=>?_|refine r_f fun _=>?_|refine r_m (fun _=>?_) fun _=>?_|refine stq ?_|refine r_i ?_|refine r_x ?_)
    all_goals
      refine s_ret rfl ?_
      have := hk _ ((((hU.out .none).out .none)).out .none)
      first
        | rw [decide_eq_true (hi.1 (by omega))] at this; exact this
        | rw [decide_eq_false (fun h => by have := hi.2 h; omega)] at this; exact this
end Go.Am

namespace Go.Am
open T
attribute [local irreducible] Wp WpO Cal Rt Then Blocked Slc Lq Jq upd' φ0 lst

variable {kn : List AV → St → Option (AV × St)}

/-- The state of a shell. -/
structure Sh where
  vars : List (List Nat × List Nat)
  status : Int
  lines : List (List Nat)
  parts : List (Int × List Nat)
  bg : Bool
  kids : List Int

def pv (x : List Nat × List Nat) : AV := .agg [.str x.1, .str x.2]
def pp (x : Int × List Nat) : AV := .agg [.int .i64 x.1, .str x.2]
def pk (n : Int) : AV := .int .i64 n

def stN : List Nat := [115, 116, 97, 116, 117, 115]

def leN (n : List Nat) : Option (List Nat) → Bool
  | some q => bytesLess n q || decide (n = q)
  | none => false

def chkV (p : Option (List Nat)) : List (List Nat × List Nat) → Int
  | [] => 0
  | (n, v) :: r => if isVar n = false ∨ n = stN then 12 else if 256 < v.length then 5 else if leN n p = true then 32 else chkV (some n) r
def chkVars (vs : List (List Nat × List Nat)) : Int := if 32 < vs.length then 9 else chkV none vs

def prevN (vs : List (List Nat × List Nat)) : Nat → Option (List Nat)
  | 0 => none
  | i + 1 => (vs[i]?).map Prod.fst

theorem map_get {α : Type} {f : α → AV} {l : List α} {i : Int} {j : Nat} {x : α} (h : l[j]? = some x) (e : i = (j : Int)) : (l.map f)[i.toNat]? = some (f x) := by
  subst e; rw [Int.toNat_natCast, List.getElem?_map, h]; rfl

theorem c_checkVariables {s : St} {a b c d : AV} {st : Int} {bg : Bool} {vs : List (List Nat × List Nat)} {k : AV → St → Prop} (hF : s.Fr) (ha : Ls a 2 (vs.map pv)) (hk : ∀ s', Up s s' [] → k (.int .i64 (chkVars vs)) s') :
    Cal (EV kn) 28 [.agg [a, .int .i64 st, b, c, .bool bg, d]] s k := by
  refine cal_fn rfl (f := 28) rfl rfl ?_
  have hlen : (vs.map pv).length = vs.length := by simp
  repeat' (first|refine r_a ?_|refine stp ?_|refine r_l ?_|refine r_c ?_|refine r_t fun _=>?_|refine r_f fun _=>?_|refine r_m (fun _=>?_) fun _=>?_|refine stq ?_|refine r_i ?_|refine r_x ?_)
  refine s_bx rfl hF fun s1 q hU1 hq hql => ?_
  repeat' (first|refine r_a ?_|refine stp ?_|refine r_l ?_|refine r_c ?_|refine r_t fun _=>?_|refine r_f fun _=>?_|refine r_m (fun _=>?_) fun _=>?_|refine stq ?_|refine r_i ?_|refine r_x ?_)
  · refine s_ret rfl ?_
    have := hk _ (hU1.out .none)
    rw [chkVars, if_pos (by omega)] at this
    exact this
  · rename_i hle
    have hcv : chkVars vs = chkV none vs := by rw [chkVars, if_neg (by omega)]
    rw [hcv] at hk
    refine s_lpj (fun (i : Nat) φ s2 => Up s s2 [] ∧ look s2.objs q = some (.cells 27 [a, .int .i64 st, b, c, .bool bg, d]) ∧ At φ 1 (.ptr q 0) true ∧ At φ 10 a true ∧ At φ 11 (.int .i64 ((vs.map pv).length : Int)) true ∧ At φ 12 (.int .i64 i) true ∧ i ≤ vs.length ∧ chkV (prevN vs i) (vs.drop i) = chkV none vs) (fun i => vs.length - i)
      (fun φ s2 => Up s s2 [] ∧ chkV none vs = 0) 0 ?_ ?_ ?_
    · exact ⟨hU1, hq, at_of rfl, at_of rfl, at_of rfl, at_of rfl, by omega, rfl⟩
    · rintro i φ s2 ⟨hU, hq, g1, g10, g11, g12, hi, hc⟩
      by_cases hlt : i < vs.length
      · obtain ⟨⟨n, v⟩, he⟩ : ∃ e, vs[i]? = some e := ⟨_, List.getElem?_eq_getElem hlt⟩
        have hx := map_get (f := pv) (i := i) he rfl
        simp only [pv] at hx
        rw [drop_cons he, chkV] at hc
        repeat' (first|refine r_a ?_|refine stp ?_|refine r_l ?_|refine r_c ?_|refine r_t fun _=>?_|refine r_f fun _=>?_|refine r_m (fun _=>?_) fun _=>?_|refine stq ?_|refine r_i ?_|refine r_x ?_)
        refine s_al hU.fr fun s3 p hU3 hp hpl => ?_
        repeat' (first|refine r_a ?_|refine stp ?_|refine r_l ?_|refine r_c ?_|refine r_t fun _=>?_|refine r_f fun _=>?_|refine r_m (fun _=>?_) fun _=>?_|refine stq ?_|refine r_i ?_|refine r_x ?_)
        refine s_st rfl hU3.fr hp fun s4 hU4 hp4 => ?_
        have hqp : q ≠ p := by have := hU.fr.lt hq; omega
        have hq4 := hU4.at1 hU3.fr (hU3.at0 hU.fr hq) hqp
        have hUs : Up s s4 [] := (hU.then0 hU3).own1 hU4 (by have := hU.le; omega)
        clear hp hq
        repeat' (first|refine r_a ?_|refine stp ?_|refine r_l ?_|refine r_c ?_|refine r_t fun _=>?_|refine r_f fun _=>?_|refine r_m (fun _=>?_) fun _=>?_|refine stq ?_|refine r_i ?_|refine r_x ?_)
        refine s_k rfl (c_IsVariable hUs.fr fun s5 hU5 => ?_)
        have hp5 := hU5.at0 hUs.fr hp4
        have hq5 := hU5.at0 hUs.fr hq4
        have hU6 := hUs.then0 hU5
        clear hp4 hq4
        cases hv : isVar n
        ·
          repeat' (first|refine r_a ?_|refine stp ?_|refine r_l ?_|refine r_c ?_|refine r_t fun _=>?_|refine r_f fun _=>?_|refine r_m (fun _=>?_) fun _=>?_|refine stq ?_|refine r_i ?_|refine r_x ?_)
          refine s_ret rfl ?_
          have := hk _ (hU6.out .none)
          rw [← hc, if_pos (.inl hv)] at this
          exact this
        · cases i with
          | zero =>
            repeat' (first|refine r_a ?_|refine stp ?_|refine r_l ?_|refine r_c ?_|refine r_t fun _=>?_|refine r_f fun _=>?_|refine r_m (fun _=>?_) fun _=>?_|refine stq ?_|refine r_i ?_|refine r_x ?_)
            · refine s_ret rfl ?_
              have := hk _ (hU6.out .none)
              rw [← hc, if_pos (.inr (by assumption))] at this
              exact this
            · rename_i h1 h2
              refine s_ret rfl ?_
              have := hk _ (hU6.out .none)
              rw [← hc, if_neg (by simp [hv]; exact h1), if_pos (by omega)] at this
              exact this
            · rename_i h1 h2 _
              refine ⟨1, by omega, hU6, hq5, at_of rfl, at_of rfl, at_of rfl, at_of rfl, by omega, ?_⟩
              rw [← hc, if_neg (by simp [hv]; exact h1), if_neg (by omega), if_neg (by simp [prevN, leN])]
              simp only [prevN, he]; rfl
          | succ j =>
            obtain ⟨⟨n', v'⟩, he'⟩ : ∃ e, vs[j]? = some e := ⟨_, List.getElem?_eq_getElem (by omega)⟩
            have hx' := map_get (f := pv) (i := ((j + 1 : Nat) : Int) - 1) he' (by omega)
            simp only [pv] at hx'
            have hpr : prevN vs (j + 1) = some n' := by simp only [prevN, he']; rfl
            rw [hpr] at hc
            repeat' (first|refine r_a ?_|refine stp ?_|refine r_l ?_|refine r_c ?_|refine r_t fun _=>?_|refine r_f fun _=>?_|refine r_m (fun _=>?_) fun _=>?_|refine stq ?_|refine r_i ?_|refine r_x ?_)
            · refine s_ret rfl ?_
              have := hk _ (hU6.out .none)
              rw [← hc, if_pos (.inr (by assumption))] at this
              exact this
            · rename_i h1 h2
              refine s_ret rfl ?_
              have := hk _ (hU6.out .none)
              rw [← hc, if_neg (by simp [hv]; exact h1), if_pos (by omega)] at this
              exact this
            · rename_i h1 h2 _ h3
              refine s_ret rfl ?_
              have := hk _ (hU6.out .none)
              rw [← hc, if_neg (by simp [hv]; exact h1), if_neg (by omega), if_pos (show leN n (some n') = true from h3)] at this
              exact this
            · rename_i h1 h2 _ h3
              refine ⟨j + 2, by omega, hU6, hq5, at_of rfl, at_of rfl, at_of rfl, (at_of rfl).eq_of (aint (by omega)), by omega, ?_⟩
              rw [← hc, if_neg (by simp [hv]; exact h1), if_neg (by omega), if_neg (fun h => Bool.noConfusion (h.symm.trans (show leN n (some n') = false from h3)))]
              simp only [prevN, he]; rfl
      ·
        repeat' (first|refine r_a ?_|refine stp ?_|refine r_l ?_|refine r_c ?_|refine r_t fun _=>?_|refine r_f fun _=>?_|refine r_m (fun _=>?_) fun _=>?_|refine stq ?_|refine r_i ?_|refine r_x ?_)
        refine ⟨hU, ?_⟩
        rw [List.drop_of_length_le (by omega)] at hc
        exact hc.symm
    · rintro φ s2 ⟨hU, hc⟩
      repeat' (first|refine r_a ?_|refine stp ?_|refine r_l ?_|refine r_c ?_|refine r_t fun _=>?_|refine r_f fun _=>?_|refine r_m (fun _=>?_) fun _=>?_|refine stq ?_|refine r_i ?_|refine r_x ?_)
      refine s_ret rfl ?_
      have := hk _ (hU.out .none)
      rw [hc] at this
      exact this
end Go.Am

namespace Go.Am
open T
attribute [local irreducible] Wp WpO Cal Rt Then Blocked Slc Lq Jq upd' φ0 lst

variable {kn : List AV → St → Option (AV × St)}

def sumL (l : List (List Nat)) : Nat := (l.map List.length).sum
def badL (l : List Nat) : Bool := decide (l = []) || decide (10 ∈ l)
def chkLines (l : List (List Nat)) : Int := if 1024 < l.length ∨ 16384 < sumL l then 9 else if l.any badL = true then 3 else 0

theorem sumL_take {l : List (List Nat)} {i : Nat} {x : List Nat} (h : l[i]? = some x) : sumL (l.take (i + 1)) = sumL (l.take i) + x.length := by
  simp only [sumL, List.take_add_one, h, Option.toList, List.map_append, List.sum_append, List.map_cons, List.map_nil, List.sum_cons, List.sum_nil]; omega
theorem sumL_le (l : List (List Nat)) (i : Nat) : sumL (l.take i) ≤ sumL l := by
  have : sumL l = sumL (l.take i) + sumL (l.drop i) := by
    simp only [sumL, ← List.sum_append, ← List.map_append, List.take_append_drop]
  omega
theorem any_take {α : Type} {f : α → Bool} {l : List α} {i : Nat} {x : α} (h : l[i]? = some x) : (l.take (i + 1)).any f = ((l.take i).any f || f x) := by
  simp [List.take_add_one, h]
theorem any_of {α : Type} {f : α → Bool} {l : List α} {i : Nat} {x : α} (h : l[i]? = some x) (hf : f x = true) : l.any f = true := List.any_eq_true.2 ⟨x, List.mem_of_getElem? h, hf⟩

theorem c_checkLines {s : St} {b : AV} {ls : List (List Nat)} {k : AV → St → Prop} (hF : s.Fr) (hb : Ls b 1 (ls.map AV.str)) (hsum : sumL ls ≤ 4611686018427387904) (hll : ls.length ≤ 4611686018427387904) (hk : ∀ s', Up s s' [] → k (.int .i64 (chkLines ls)) s') :
    Cal (EV kn) 29 [b] s k := by
  refine cal_fn rfl (f := 29) rfl rfl ?_
  have hlen : (ls.map AV.str).length = ls.length := by simp
  repeat' (first|refine r_a ?_|refine stp ?_|refine r_l ?_|refine r_c ?_|refine r_t fun _=>?_|refine r_f fun _=>?_|refine r_m (fun _=>?_) fun _=>?_|refine stq ?_|refine r_i ?_|refine r_x ?_)
  refine s_lpj (fun (i : Nat) φ s2 => s2 = s ∧ At φ 0 b true ∧ At φ 3 (.int .i64 (sumL (ls.take i) : Nat)) true ∧ At φ 8 b true ∧ At φ 9 (.int .i64 ((ls.map AV.str).length : Int)) true ∧ At φ 10 (.int .i64 i) true ∧ i ≤ ls.length) (fun i => ls.length - i)
      (fun φ s2 => s2 = s ∧ At φ 0 b true ∧ At φ 3 (.int .i64 (sumL ls : Nat)) true) 0 ?_ ?_ ?_
  · exact ⟨rfl, at_of rfl, at_of rfl, at_of rfl, at_of rfl, at_of rfl, by omega⟩
  · rintro i φ s2 ⟨rfl, g0, g3, g8, g9, g10, hi⟩
    by_cases hlt : i < ls.length
    · obtain ⟨x, he⟩ : ∃ e, ls[i]? = some e := ⟨_, List.getElem?_eq_getElem hlt⟩
      have hx := map_get (f := AV.str) (i := i) he rfl
      have h1 := sumL_take he
      have h2 := sumL_le ls (i + 1)
      repeat' (first|refine r_a ?_|refine stp ?_|refine r_l ?_|refine r_c ?_|refine r_t fun _=>?_|refine r_f fun _=>?_|refine r_m (fun _=>?_) fun _=>?_|refine stq ?_|refine r_i ?_|refine r_x ?_)
      exact ⟨i + 1, by omega, rfl, at_of rfl, (at_of rfl).eq_of (aint (by omega)), at_of rfl, at_of rfl, at_of rfl, by omega⟩
    ·
      repeat' (first|refine r_a ?_|refine stp ?_|refine r_l ?_|refine r_c ?_|refine r_t fun _=>?_|refine r_f fun _=>?_|refine r_m (fun _=>?_) fun _=>?_|refine stq ?_|refine r_i ?_|refine r_x ?_)
      rw [List.take_of_length_le (by omega)] at g3
      exact ⟨rfl, at_of rfl, at_of rfl⟩
  · rintro φ s2 ⟨rfl, g0, g3⟩
    repeat' (first|refine r_a ?_|refine stp ?_|refine r_l ?_|refine r_c ?_|refine r_t fun _=>?_|refine r_f fun _=>?_|refine r_m (fun _=>?_) fun _=>?_|refine stq ?_|refine r_i ?_|refine r_x ?_)
    · refine s_ret rfl ?_
      have := hk _ ((Up.refl hF).out .none)
      rw [chkLines, if_pos (.inl (by omega))] at this
      exact this
    · refine s_ret rfl ?_
      have := hk _ ((Up.refl hF).out .none)
      rw [chkLines, if_pos (.inr (by omega))] at this
      exact this
    · rename_i h1 h2
      have hcl : chkLines ls = if ls.any badL = true then 3 else 0 := by rw [chkLines, if_neg (by omega)]
      rw [hcl] at hk
      refine s_lpj (fun (i : Nat) φ s3 => Up s2 s3 [] ∧ At φ 26 b true ∧ At φ 27 (.int .i64 ((ls.map AV.str).length : Int)) true ∧ At φ 28 (.int .i64 i) true ∧ i ≤ ls.length ∧ (ls.take i).any badL = false) (fun i => ls.length - i)
          (fun φ s3 => Up s2 s3 [] ∧ ls.any badL = false) 0 ?_ ?_ ?_
      · exact ⟨Up.refl hF, at_of rfl, at_of rfl, at_of rfl, by omega, rfl⟩
      · rintro i φ s3 ⟨hU, g26, g27, g28, hi, hany⟩
        by_cases hlt : i < ls.length
        · obtain ⟨x, he⟩ : ∃ e, ls[i]? = some e := ⟨_, List.getElem?_eq_getElem hlt⟩
          have hx := map_get (f := AV.str) (i := i) he rfl
          repeat' (first|refine r_a ?_|refine stp ?_|refine r_l ?_|refine r_c ?_|refine r_t fun _=>?_|refine r_f fun _=>?_|refine r_m (fun _=>?_) fun _=>?_|refine stq ?_|refine r_i ?_|refine r_x ?_)
          · rename_i e
            refine s_ret rfl ?_
            have := hk _ (hU.out .none)
            rw [if_pos (any_of he (by simp [badL, e]))] at this
            exact this
          · rename_i hne
            refine s_kg rfl (c_Contains hU.fr fun s4 hU4 => ?_)
            cases hc : decide (10 ∈ x)
            ·
              repeat' (first|refine r_a ?_|refine stp ?_|refine r_l ?_|refine r_c ?_|refine r_t fun _=>?_|refine r_f fun _=>?_|refine r_m (fun _=>?_) fun _=>?_|refine stq ?_|refine r_i ?_|refine r_x ?_)
              exact ⟨i + 1, by omega, hU.then0 hU4, at_of rfl, at_of rfl, at_of rfl, by omega, by rw [any_take he, hany, badL, hc, decide_eq_false hne]; rfl⟩
            ·
              repeat' (first|refine r_a ?_|refine stp ?_|refine r_l ?_|refine r_c ?_|refine r_t fun _=>?_|refine r_f fun _=>?_|refine r_m (fun _=>?_) fun _=>?_|refine stq ?_|refine r_i ?_|refine r_x ?_)
              refine s_ret rfl ?_
              have := hk _ ((hU.then0 hU4).out .none)
              rw [if_pos (any_of he (by simp [badL, of_decide_eq_true hc]))] at this
              exact this
        ·
          repeat' (first|refine r_a ?_|refine stp ?_|refine r_l ?_|refine r_c ?_|refine r_t fun _=>?_|refine r_f fun _=>?_|refine r_m (fun _=>?_) fun _=>?_|refine stq ?_|refine r_i ?_|refine r_x ?_)
          rw [List.take_of_length_le (by omega)] at hany
          exact ⟨hU, hany⟩
      · rintro φ s3 ⟨hU, hany⟩
        repeat' (first|refine r_a ?_|refine stp ?_|refine r_l ?_|refine r_c ?_|refine r_t fun _=>?_|refine r_f fun _=>?_|refine r_m (fun _=>?_) fun _=>?_|refine stq ?_|refine r_i ?_|refine r_x ?_)
        refine s_ret rfl ?_
        have := hk _ (hU.out .none)
        rw [if_neg (by rw [hany]; decide)] at this
        exact this

def errP (x : Int × List Nat) : Int := if x.1 < 0 ∨ 2 < x.1 then 2 else if x.2 = [] then 3 else if 1024 < x.2.length then 5 else 0
/-- The first error of a list. -/
def firstE {α : Type} (f : α → Int) : List α → Int
  | [] => 0
  | x :: r => if f x = 0 then firstE f r else f x
def chkParts (l : List (Int × List Nat)) (bg : Bool) : Int :=
  if 16 < l.length then 9 else if firstE errP l = 0 then (if bg = true ∧ l.length = 0 then 10 else 0) else firstE errP l

theorem firstE_of {α : Type} {f : α → Int} {l : List α} {i : Nat} {x : α} (h : l[i]? = some x) (hp : firstE f (l.drop i) = firstE f l) (hx : f x ≠ 0) : firstE f l = f x := by
  rw [← hp, drop_cons h, firstE, if_neg hx]
theorem firstE_next {α : Type} {f : α → Int} {l : List α} {i : Nat} {x : α} (h : l[i]? = some x) (hp : firstE f (l.drop i) = firstE f l) (hx : f x = 0) : firstE f (l.drop (i + 1)) = firstE f l := by
  rw [← hp, drop_cons h, firstE, if_pos hx]

theorem c_checkParts {s : St} {a b c d : AV} {st : Int} {bg : Bool} {ps : List (Int × List Nat)} {k : AV → St → Prop} (hF : s.Fr) (hc : Ls c 2 (ps.map pp)) (hk : ∀ s', Up s s' [] → k (.int .i64 (chkParts ps bg)) s') :
    Cal (EV kn) 30 [.agg [a, .int .i64 st, b, c, .bool bg, d]] s k := by
  refine cal_fn rfl (f := 30) rfl rfl ?_
  have hlen : (ps.map pp).length = ps.length := by simp
  repeat' (first|refine r_a ?_|refine stp ?_|refine r_l ?_|refine r_c ?_|refine r_t fun _=>?_|refine r_f fun _=>?_|refine r_m (fun _=>?_) fun _=>?_|refine stq ?_|refine r_i ?_|refine r_x ?_)
  refine s_bx rfl hF fun s1 q hU1 hq hql => ?_
  repeat' (first|refine r_a ?_|refine stp ?_|refine r_l ?_|refine r_c ?_|refine r_t fun _=>?_|refine r_f fun _=>?_|refine r_m (fun _=>?_) fun _=>?_|refine stq ?_|refine r_i ?_|refine r_x ?_)
  · refine s_ret rfl ?_
    have := hk _ (hU1.out .none)
    rw [chkParts, if_pos (by omega)] at this
    exact this
  · rename_i hle
    rw [chkParts, if_neg (by omega)] at hk
    refine s_lpj (fun (i : Nat) φ s2 => Up s s2 [] ∧ look s2.objs q = some (.cells 27 [a, .int .i64 st, b, c, .bool bg, d]) ∧ At φ 1 (.ptr q 0) true ∧ At φ 10 c true ∧ At φ 11 (.int .i64 ((ps.map pp).length : Int)) true ∧ At φ 12 (.int .i64 i) true ∧ i ≤ ps.length ∧ firstE errP (ps.drop i) = firstE errP ps) (fun i => ps.length - i)
      (fun φ s2 => Up s s2 [] ∧ look s2.objs q = some (.cells 27 [a, .int .i64 st, b, c, .bool bg, d]) ∧ At φ 1 (.ptr q 0) true ∧ firstE errP ps = 0) 0 ?_ ?_ ?_
    · exact ⟨hU1, hq, at_of rfl, at_of rfl, at_of rfl, at_of rfl, by omega, rfl⟩
    · rintro i φ s2 ⟨hU, hq, g1, g10, g11, g12, hi, hc⟩
      by_cases hlt : i < ps.length
      · obtain ⟨⟨n, v⟩, he⟩ : ∃ e, ps[i]? = some e := ⟨_, List.getElem?_eq_getElem hlt⟩
        have hx := map_get (f := pp) (i := i) he rfl
        simp only [pp] at hx
        repeat' (first|refine r_a ?_|refine stp ?_|refine r_l ?_|refine r_c ?_|refine r_t fun _=>?_|refine r_f fun _=>?_|refine r_m (fun _=>?_) fun _=>?_|refine stq ?_|refine r_i ?_|refine r_x ?_)
        refine s_al hU.fr fun s3 p hU3 hp hpl => ?_
        repeat' (first|refine r_a ?_|refine stp ?_|refine r_l ?_|refine r_c ?_|refine r_t fun _=>?_|refine r_f fun _=>?_|refine r_m (fun _=>?_) fun _=>?_|refine stq ?_|refine r_i ?_|refine r_x ?_)
        refine s_st rfl hU3.fr hp fun s4 hU4 hp4 => ?_
        have hqp : q ≠ p := by have := hU.fr.lt hq; omega
        have hq4 := hU4.at1 hU3.fr (hU3.at0 hU.fr hq) hqp
        have hUs : Up s s4 [] := (hU.then0 hU3).own1 hU4 (by have := hU.le; omega)
        clear hp hq
        repeat' (first|refine r_a ?_|refine stp ?_|refine r_l ?_|refine r_c ?_|refine r_t fun _=>?_|refine r_f fun _=>?_|refine r_m (fun _=>?_) fun _=>?_|refine stq ?_|refine r_i ?_|refine r_x ?_)
        · rename_i h1
          have hE : errP (n, v) = 2 := by rw [errP, if_pos (.inl h1)]
          refine s_ret rfl ?_
          have := hk _ (hUs.out .none)
          rw [firstE_of he hc (by rw [hE]; decide), hE, if_neg (by decide)] at this
          exact this
        · rename_i h1
          have hE : errP (n, v) = 2 := by rw [errP, if_pos (.inr h1)]
          refine s_ret rfl ?_
          have := hk _ (hUs.out .none)
          rw [firstE_of he hc (by rw [hE]; decide), hE, if_neg (by decide)] at this
          exact this
        · rename_i h1 h2 h3
          have hE : errP (n, v) = 3 := by rw [errP, if_neg (by simp only; omega), if_pos h3]
          refine s_ret rfl ?_
          have := hk _ (hUs.out .none)
          rw [firstE_of he hc (by rw [hE]; decide), hE, if_neg (by decide)] at this
          exact this
        · rename_i h1 h2 h3 h4
          have hE : errP (n, v) = 5 := by rw [errP, if_neg (by simp only; omega), if_neg h3, if_pos (by simp only; omega)]
          refine s_ret rfl ?_
          have := hk _ (hUs.out .none)
          rw [firstE_of he hc (by rw [hE]; decide), hE, if_neg (by decide)] at this
          exact this
        · rename_i h1 h2 h3 h4
          have hE : errP (n, v) = 0 := by rw [errP, if_neg (by simp only; omega), if_neg h3, if_neg (by simp only; omega)]
          exact ⟨i + 1, by omega, hUs, hq4, at_of rfl, at_of rfl, at_of rfl, at_of rfl, by omega, firstE_next he hc hE⟩
      ·
        repeat' (first|refine r_a ?_|refine stp ?_|refine r_l ?_|refine r_c ?_|refine r_t fun _=>?_|refine r_f fun _=>?_|refine r_m (fun _=>?_) fun _=>?_|refine stq ?_|refine r_i ?_|refine r_x ?_)
        refine ⟨hU, hq, at_of rfl, ?_⟩
        rw [List.drop_of_length_le (by omega)] at hc
        exact hc.symm
    · rintro φ s2 ⟨hU, hq, g1, hc⟩
      rw [hc, if_pos rfl] at hk
      cases bg
      ·
        repeat' (first|refine r_a ?_|refine stp ?_|refine r_l ?_|refine r_c ?_|refine r_t fun _=>?_|refine r_f fun _=>?_|refine r_m (fun _=>?_) fun _=>?_|refine stq ?_|refine r_i ?_|refine r_x ?_)
        refine s_ret rfl ?_
        exact hk _ (hU.out .none)
      ·
        repeat' (first|refine r_a ?_|refine stp ?_|refine r_l ?_|refine r_c ?_|refine r_t fun _=>?_|refine r_f fun _=>?_|refine r_m (fun _=>?_) fun _=>?_|refine stq ?_|refine r_i ?_|refine r_x ?_)
        · refine s_ret rfl ?_
          have := hk _ (hU.out .none)
          rw [if_pos ⟨rfl, by omega⟩] at this
          exact this
        · refine s_ret rfl ?_
          have := hk _ (hU.out .none)
          rw [if_neg (by intro h; omega)] at this
          exact this

def badK (n : Int) : Bool := decide (n < 1) || decide (999999 < n)
def Sh.check (x : Sh) : Int :=
  if chkVars x.vars ≠ 0 then chkVars x.vars else if x.status < 0 ∨ 999 < x.status then 2 else if chkLines x.lines ≠ 0 then chkLines x.lines
  else if chkParts x.parts x.bg ≠ 0 then chkParts x.parts x.bg else if 8 < x.kids.length then 9 else if x.kids.any badK = true then 2 else 0

theorem c_Check {s : St} {x : Sh} {a b c d : AV} {k : AV → St → Prop} (hF : s.Fr) (ha : Ls a 2 (x.vars.map pv)) (hb : Ls b 1 (x.lines.map AV.str)) (hc : Ls c 2 (x.parts.map pp)) (hd : Ls d 1 (x.kids.map pk)) (hsum : sumL x.lines ≤ 4611686018427387904) (hll : x.lines.length ≤ 4611686018427387904)
    (hk : ∀ s', Up s s' [] → k (.int .i64 x.check) s') : Cal (EV kn) 10 [.agg [a, .int .i64 x.status, b, c, .bool x.bg, d]] s k := by
  refine cal_fn rfl (f := 10) rfl rfl ?_
  have hlen : (x.kids.map pk).length = x.kids.length := by simp
  repeat' (first|refine r_a ?_|refine stp ?_|refine r_l ?_|refine r_c ?_|refine r_t fun _=>?_|refine r_f fun _=>?_|refine r_m (fun _=>?_) fun _=>?_|refine stq ?_|refine r_i ?_|refine r_x ?_)
  refine s_bx rfl hF fun s1 q hU1 hq hql => ?_
  repeat' (first|refine r_a ?_|refine stp ?_|refine r_l ?_|refine r_c ?_|refine r_t fun _=>?_|refine r_f fun _=>?_|refine r_m (fun _=>?_) fun _=>?_|refine stq ?_|refine r_i ?_|refine r_x ?_)
  refine s_k rfl (c_checkVariables hU1.fr ha fun s2 hU2 => ?_)
  have hq2 := hU2.at0 hU1.fr hq
  have hUs := hU1.then0 hU2
  unfold Sh.check at hk
  repeat' (first|refine r_a ?_|refine stp ?_|refine r_l ?_|refine r_c ?_|refine r_t fun _=>?_|refine r_f fun _=>?_|refine r_m (fun _=>?_) fun _=>?_|refine stq ?_|refine r_i ?_|refine r_x ?_)
  · rename_i h
    refine s_ret rfl ?_
    have := hk _ (hUs.out .none)
    rw [if_pos h] at this; exact this
  · rename_i h h1
    refine s_ret rfl ?_
    have := hk _ (hUs.out .none)
    rw [if_neg (by simpa using h), if_pos (.inl h1)] at this; exact this
  · rename_i h _ h1
    refine s_ret rfl ?_
    have := hk _ (hUs.out .none)
    rw [if_neg (by simpa using h), if_pos (.inr h1)] at this; exact this
  · rename_i h h1 h2
    rw [if_neg (by simpa using h), if_neg (by omega)] at hk
    refine s_k rfl (c_checkLines hUs.fr hb hsum hll fun s3 hU3 => ?_)
    have hq3 := hU3.at0 hUs.fr hq2
    have hUs3 := hUs.then0 hU3
    repeat' (first|refine r_a ?_|refine stp ?_|refine r_l ?_|refine r_c ?_|refine r_t fun _=>?_|refine r_f fun _=>?_|refine r_m (fun _=>?_) fun _=>?_|refine stq ?_|refine r_i ?_|refine r_x ?_)
    · rename_i h3
      refine s_ret rfl ?_
      have := hk _ (hUs3.out .none)
      rw [if_pos h3] at this; exact this
    · rename_i h3
      rw [if_neg (by simpa using h3)] at hk
      refine s_k rfl (c_checkParts hUs3.fr hc fun s4 hU4 => ?_)
      have hq4 := hU4.at0 hUs3.fr hq3
      have hUs4 := hUs3.then0 hU4
      repeat' (first|refine r_a ?_|refine stp ?_|refine r_l ?_|refine r_c ?_|refine r_t fun _=>?_|refine r_f fun _=>?_|refine r_m (fun _=>?_) fun _=>?_|refine stq ?_|refine r_i ?_|refine r_x ?_)
      · rename_i h4
        refine s_ret rfl ?_
        have := hk _ (hUs4.out .none)
        rw [if_pos h4] at this; exact this
      · rename_i h4 h5
        rw [if_neg (by simpa using h4)] at hk
        refine s_ret rfl ?_
        have := hk _ (hUs4.out .none)
        rw [if_pos (by omega)] at this; exact this
      · rename_i h4 h5
        rw [if_neg (by simpa using h4), if_neg (by omega)] at hk
        refine s_lpj (fun (i : Nat) φ s5 => s5 = s4 ∧ At φ 37 d true ∧ At φ 38 (.int .i64 ((x.kids.map pk).length : Int)) true ∧ At φ 39 (.int .i64 i) true ∧ i ≤ x.kids.length ∧ (x.kids.take i).any badK = false) (fun i => x.kids.length - i)
          (fun φ s5 => s5 = s4 ∧ x.kids.any badK = false) 0 ?_ ?_ ?_
        · exact ⟨rfl, at_of rfl, at_of rfl, at_of rfl, by omega, rfl⟩
        · rintro i φ s5 ⟨rfl, g37, g38, g39, hi, hany⟩
          by_cases hlt : i < x.kids.length
          · obtain ⟨y, he⟩ : ∃ e, x.kids[i]? = some e := ⟨_, List.getElem?_eq_getElem hlt⟩
            have hx := map_get (f := pk) (i := i) he rfl
            simp only [pk] at hx
            repeat' (first|refine r_a ?_|refine stp ?_|refine r_l ?_|refine r_c ?_|refine r_t fun _=>?_|refine r_f fun _=>?_|refine r_m (fun _=>?_) fun _=>?_|refine stq ?_|refine r_i ?_|refine r_x ?_)
            · rename_i e
              refine s_ret rfl ?_
              have := hk _ (hUs4.out .none)
              rw [if_pos (any_of he (by simp [badK, e]))] at this
              exact this
            · rename_i e
              refine s_ret rfl ?_
              have := hk _ (hUs4.out .none)
              rw [if_pos (any_of he (by simp [badK, e]))] at this
              exact this
            · exact ⟨i + 1, by omega, rfl, at_of rfl, at_of rfl, at_of rfl, by omega, by rw [any_take he, hany, badK, decide_eq_false (by omega), decide_eq_false (by omega)]; rfl⟩
          ·
            repeat' (first|refine r_a ?_|refine stp ?_|refine r_l ?_|refine r_c ?_|refine r_t fun _=>?_|refine r_f fun _=>?_|refine r_m (fun _=>?_) fun _=>?_|refine stq ?_|refine r_i ?_|refine r_x ?_)
            rw [List.take_of_length_le (by omega)] at hany
            exact ⟨rfl, hany⟩
        · rintro φ s5 ⟨rfl, hany⟩
          repeat' (first|refine r_a ?_|refine stp ?_|refine r_l ?_|refine r_c ?_|refine r_t fun _=>?_|refine r_f fun _=>?_|refine r_m (fun _=>?_) fun _=>?_|refine stq ?_|refine r_i ?_|refine r_x ?_)
          refine s_ret rfl ?_
          have := hk _ (hUs4.out .none)
          rw [if_neg (by rw [hany]; decide)] at this
          exact this
end Go.Am

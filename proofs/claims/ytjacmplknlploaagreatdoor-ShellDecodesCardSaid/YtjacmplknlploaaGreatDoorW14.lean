/- The codec's writer. The codec's reader. The codec's reader: its methods. -/
import Derived.Test.YtjacmplknlploaaGreatDoorW12
import Derived.Test.YtjacmplknlploaaGreatDoorW13
set_option linter.all false
namespace Go.Am
open T
attribute [local irreducible] Wp WpO Cal Rt Then Blocked Slc Lq upd' φ0 lst

variable {kn : List AV → St → Option (AV × St)}

theorem c_works {s : St} {w : Nat} {b : AV} {e : Int} {k : AV → St → Prop} (hF : s.Fr) (hl : look s.objs w = some (.cells 75 [b, .int .i64 e]))
    (hk : ∀ s', Up s s' [] → (e = 0 → k (.bool true) s') ∧ (e ≠ 0 → k (.bool false) s')) : Cal (EV kn) 43 [.ptr w 0] s k := by
  refine cal_fn rfl (f := 43) rfl rfl ?_
  repeat' (first|refine r_a ?_|refine stp ?_|refine r_l ?_|refine r_c ?_|refine r_t fun _=>?_|refine r_f fun _=>?_|refine r_m (fun _=>?_) fun _=>?_)
  · refine s_ret rfl ?_; exact (hk _ ((Up.refl hF).out .none)).1 (by assumption)
  · refine s_ret rfl ?_; exact (hk _ ((Up.refl hF).out .none)).2 (by assumption)

/-- The encoding of a natural number. -/
def encN (u : Nat) : List Nat := if h : u < 128 then [u] else (u % 128 + 128) :: encN (u / 128)
termination_by u
decreasing_by omega

set_option maxRecDepth 10000 in
theorem lor128 : ∀ n, n < 256 → Nat.lor n 128 = n % 128 + 128 := by decide

theorem encN_lt (u : Nat) : ∀ c ∈ encN u, c < 256 := by
  induction u using Nat.strongRecOn with
  | ind u ih =>
    unfold encN
    split
    · simp; omega
    · intro c hc
      rcases List.mem_cons.1 hc with h | h
      · omega
      · exact ih _ (by omega) c h

theorem encN_len (k u : Nat) (h : u < 128 ^ (k + 1)) : (encN u).length ≤ k + 1 := by
  induction k generalizing u with
  | zero => unfold encN; rw [dif_pos (by simpa using h)]; simp
  | succ k ih =>
    unfold encN
    split
    · simp
    · simp only [List.length_cons]
      have := ih (u / 128) (by rw [Nat.div_lt_iff_lt_mul (by decide)]; rwa [Nat.pow_succ] at h)
      omega

theorem encN_ge {u : Nat} (h : 128 ≤ u) : encN u = (u % 128 + 128) :: encN (u / 128) := by rw [encN, dif_neg (by omega)]
theorem encN_small {u : Nat} (h : u < 128) : encN u = [u] := by rw [encN, dif_pos h]
theorem encN_pos (u : Nat) : (encN u).length ≥ 1 := by
  unfold encN; split <;> simp

theorem byteOf {p : Nat} : wrapF .u8 (p : Int) = ((p % 256 : Nat) : Int) := by simp only [wrapF]; omega
theorem byteOr {p : Nat} : wrapF .u8 (((toN .u8 (wrapF .u8 (p : Int))).lor (toN .u8 128) : Nat) : Int) = ((p % 128 + 128 : Nat) : Int) := by
  rw [byteOf (p := p), show toN .u8 ((p % 256 : Nat) : Int) = p % 256 by simp only [toN, bitsOf]; rw [show Int.ofNat (2 ^ 8) = 256 from rfl]; omega, show toN .u8 128 = 128 from rfl, lor128 _ (by omega), byteOf]
  omega

theorem c_appendNatural {s : St} {v : AV} {xs : List Nat} {W : List Nat} {u : Nat} {k : AV → St → Prop} (hF : s.Fr) (hS : Slc s 5 1 v (bv xs) W) (hu : u < 18446744073709551616) (hx : xs.length + (encN u).length ≤ 20000000)
    (hk : ∀ v' s' W', Up s s' W → Slc s' 5 1 v' (bv (xs ++ encN u)) W' → NewW s W W' → k v' s') : Cal (EV kn) 44 [v, .int .u64 ((u : Int))] s k := by
  refine cal_fn rfl (f := 44) rfl rfl ?_
  repeat' (first|refine r_a ?_|refine stp ?_|refine r_l ?_|refine r_c ?_)
  refine s_q (s_blk (s_lp (fun (p : Nat × List Nat) φ s1 => ∃ v1 W1, At φ 0 v1 true ∧ At φ 1 (.int .u64 ((p.1 : Int))) true ∧ Up s s1 W ∧ Slc s1 5 1 v1 (bv p.2) W1 ∧ NewW s W W1 ∧ p.1 < 18446744073709551616 ∧ p.2 ++ encN p.1 = xs ++ encN u) (fun p => p.1) (u, xs) ?_ ?_))
  · refine ⟨v, W, at_of rfl, at_of rfl, (Up.refl hF).mono (fun _ _ h => by cases h), hS, fun i hi => .inl hi, ?_, ?_⟩
    · exact hu
    · rfl
  · rintro ⟨p, ys⟩ φ s1 ⟨v1, W1, h0, h1, hU, hS1, hN, hp, he⟩
    simp only at h1 hp he hS1
    refine s_q ?_
    repeat' (first|refine r_a ?_|refine stp ?_|refine r_l ?_|refine r_c ?_|refine r_t fun _=>?_|refine r_f fun _=>?_|refine r_m (fun _=>?_) fun _=>?_)
    · rename_i hge
      refine s_blk ?_
      repeat' (first|refine r_a ?_|refine stp ?_|refine r_l ?_|refine r_c ?_)
      refine s_mk1 rfl rfl hU.fr (fun s2 t hU2 hS2 ht => ?_)
      rw [byteOr] at hS2 ⊢
      refine s_app rfl hU2.fr (hS1.up hU.fr hU2 (by simp)) (ys := bv [p % 128 + 128]) rfl ?_ (bv_ok _) (fun v3 s3 W3 hU3 hS3 hN3 => ?_)
      · have e1 := congrArg List.length he
        have e2 : (encN p).length ≥ 1 := encN_pos p
        simp only [List.length_append] at e1
        simp only [bv_length, List.length_cons, List.length_nil, maxL]; omega
      repeat' (first|refine r_a ?_|refine stp ?_|refine r_l ?_|refine r_c ?_)
      refine ⟨(p / 128, ys ++ [p % 128 + 128]), by simp only; omega, v3, W3, at_of rfl, at_of rfl, ?_, by rw [bv_append]; exact hS3, ?_, by simp only; omega, ?_⟩
      · exact (hU.then0 hU2).news hN hU3 (fun _ h => h)
      · exact hN.trans (hN3.trans0 hU2.le) hU.le
      · rw [← he, encN_ge (by omega : 128 ≤ p), List.append_assoc]; rfl
    · rename_i hlt
      repeat' (first|refine r_a ?_|refine stp ?_|refine r_l ?_|refine r_c ?_)
      refine s_mk1 rfl rfl hU.fr (fun s2 t hU2 hS2 ht => ?_)
      rw [byteOf, show p % 256 = p by omega] at hS2 ⊢
      refine s_app rfl hU2.fr (hS1.up hU.fr hU2 (by simp)) (ys := bv [p]) rfl ?_ (bv_ok _) (fun v3 s3 W3 hU3 hS3 hN3 => ?_)
      · have e1 := congrArg List.length he
        have e2 : (encN p).length ≥ 1 := encN_pos p
        simp only [List.length_append] at e1
        simp only [bv_length, List.length_cons, List.length_nil, maxL]; omega
      repeat' (first|refine r_a ?_|refine stp ?_|refine r_l ?_|refine r_c ?_)
      refine s_ret rfl ?_
      refine hk _ _ W3 (((hU.then0 hU2).news hN hU3 (fun _ h => h)).out .some) ?_ (hN.trans (hN3.trans0 hU2.le) hU.le)
      rw [← he, encN_small (by omega : p < 128), bv_append]
      exact hS3.out _
theorem wrapU {n : Int} (h1 : 0 ≤ n) (h2 : n < 18446744073709551616) : wrapF .u64 n = n := by simp only [wrapF]; omega

/-- A writer that works. -/
def Wr (s : St) (w : Nat) (bs : List Nat) (W : List Nat) : Prop := ∃ b, look s.objs w = some (.cells 75 [b, .int .i64 0]) ∧ Slc s 5 1 b (bv bs) W

theorem Wr.ne {s : St} {w : Nat} {bs W : List Nat} (h : Wr s w bs W) {i : Nat} {o : Obj} (hl : look s.objs i = some o) (ho : o.light = true) : i ∉ W := by
  obtain ⟨b, _, h⟩ := h; exact h.ne hl ho
theorem Wr.lt {s : St} {w : Nat} {bs W : List Nat} (h : Wr s w bs W) (hF : s.Fr) : ∀ i ∈ w :: W, i < s.next := by
  obtain ⟨b, h1, h⟩ := h
  intro i hi
  rcases List.mem_cons.1 hi with rfl | hi
  · exact hF.lt h1
  · exact h.lt hF i hi
theorem Wr.up {s s' : St} {w : Nat} {bs W V : List Nat} (h : Wr s w bs W) (hF : s.Fr) (hU : Up s s' V) (hw : w ∉ V) (hd : ∀ i ∈ W, i ∉ V) : Wr s' w bs W := by
  obtain ⟨b, h1, h2⟩ := h
  exact ⟨b, hU.at hF h1 hw, h2.up hF hU hd⟩
theorem Wr.up0 {s s' : St} {w : Nat} {bs W : List Nat} (h : Wr s w bs W) (hF : s.Fr) (hU : Up s s' []) : Wr s' w bs W := h.up hF hU (by simp) (by simp)

theorem c_NewWriter {s : St} {k : AV → St → Prop} (hF : s.Fr) (hk : ∀ w s', Up s s' [] → Wr s' w [] [] → s.next ≤ w → k (.ptr w 0) s') : Cal (EV kn) 19 [] s k := by
  refine cal_fn rfl (f := 19) rfl rfl ?_
  repeat' (first|refine r_a ?_|refine stp ?_|refine r_l ?_|refine r_c ?_)
  refine s_bx rfl hF fun s' w hU hl hle => ?_
  repeat' (first|refine r_a ?_|refine stp ?_|refine r_l ?_|refine r_c ?_)
  refine s_ret rfl ?_
  exact hk w _ (hU.out .all) ⟨_, hl, Slc.nil⟩ hle

/-- What writing does. -/
def Wrote (s : St) (w : Nat) (bs : List Nat) (W : List Nat) (more : List Nat) (k : AV → St → Prop) : Prop := ∀ s' W', Up s s' (w :: W) → Wr s' w (bs ++ more) W' → NewW s W W' → k (.tup []) s'

theorem c_Number {s : St} {w : Nat} {bs W : List Nat} {n : Nat} {k : AV → St → Prop} (hF : s.Fr) (hw : Wr s w bs W) (hn : n < 9223372036854775808) (hb : bs.length + (encN n).length ≤ 20000000)
    (hk : Wrote s w bs W (encN n) k) : Cal (EV kn) 20 [.ptr w 0, .int .i64 n] s k := by
  obtain ⟨b, hl, hS⟩ := hw
  refine cal_fn rfl (f := 20) rfl rfl ?_
  repeat' (first|refine r_a ?_|refine stp ?_|refine r_l ?_|refine r_c ?_|refine r_t fun _=>?_|refine r_f fun _=>?_|refine r_m (fun _=>?_) fun _=>?_|refine stq ?_|refine r_i ?_|refine r_x ?_)
  refine s_k rfl (c_works hF hl fun s2 hU2 => ⟨fun _ => ?_, fun h => absurd rfl h⟩)
  have hl2 := hU2.at hF hl (by simp)
  repeat' (first|refine r_a ?_|refine stp ?_|refine r_l ?_|refine r_c ?_|refine r_t fun _=>?_|refine r_f fun _=>?_|refine r_m (fun _=>?_) fun _=>?_|refine stq ?_|refine r_i ?_|refine r_x ?_)
  refine s_k rfl ?_
  rw [wrapU (by omega) (by omega)]
  refine c_appendNatural hU2.fr (hS.up hF hU2 (by simp)) (by omega) hb fun v3 s3 W3 hU3 hS3 hN3 => ?_
  have hl3 := hU3.at hU2.fr hl2 (hS.ne hl rfl)
  repeat' (first|refine r_a ?_|refine stp ?_|refine r_l ?_|refine r_c ?_|refine r_t fun _=>?_|refine r_f fun _=>?_|refine r_m (fun _=>?_) fun _=>?_|refine stq ?_|refine r_i ?_|refine r_x ?_)
  have := hS3.cel
  refine s_st rfl hU3.fr hl3 fun s4 hU4 hl4 => ?_
  repeat' (first|refine r_a ?_|refine stp ?_|refine r_l ?_|refine r_c ?_|refine r_t fun _=>?_|refine r_f fun _=>?_|refine r_m (fun _=>?_) fun _=>?_|refine stq ?_|refine r_i ?_|refine r_x ?_)
  refine s_retn rfl ?_
  have hw4 : w ∉ W3 := hS3.ne hl3 rfl
  refine hk _ W3 ?_ ⟨v3, ?_, ?_⟩ (hN3.trans0 hU2.le)
  · exact ((hU2.zero hU3).cons hU4).out .some
  · rw [out_lt (hF.lt hl)]; exact hl4
  · exact (hS3.up hU3.fr hU4 (fun i hi he => hw4 (by simp at he; rw [← he]; exact hi))).out _

theorem c_Text {s : St} {w : Nat} {bs W x : List Nat} {k : AV → St → Prop} (hF : s.Fr) (hw : Wr s w bs W) (hn : x.length ≤ 16777216) (hb : bs.length + (encN x.length ++ x).length ≤ 20000000)
    (hk : Wrote s w bs W (encN x.length ++ x) k) : Cal (EV kn) 21 [.ptr w 0, .str x] s k := by
  obtain ⟨b, hl, hS⟩ := hw
  rw [List.length_append] at hb
  refine cal_fn rfl (f := 21) rfl rfl ?_
  repeat' (first|refine r_a ?_|refine stp ?_|refine r_l ?_|refine r_c ?_|refine r_t fun _=>?_|refine r_f fun _=>?_|refine r_m (fun _=>?_) fun _=>?_|refine stq ?_|refine r_i ?_|refine r_x ?_)
  refine s_k rfl (c_works hF hl fun s2 hU2 => ⟨fun _ => ?_, fun h => absurd rfl h⟩)
  have hl2 := hU2.at hF hl (by simp)
  repeat' (first|refine r_a ?_|refine stp ?_|refine r_l ?_|refine r_c ?_|refine r_t fun _=>?_|refine r_f fun _=>?_|refine r_m (fun _=>?_) fun _=>?_|refine stq ?_|refine r_i ?_|refine r_x ?_)
  refine s_k rfl ?_
  rw [wrapU (by omega) (by omega)]
  refine c_appendNatural hU2.fr (hS.up hF hU2 (by simp)) (by omega) (by omega) fun v3 s3 W3 hU3 hS3 hN3 => ?_
  have hl3 := hU3.at hU2.fr hl2 (hS.ne hl rfl)
  repeat' (first|refine r_a ?_|refine stp ?_|refine r_l ?_|refine r_c ?_|refine r_t fun _=>?_|refine r_f fun _=>?_|refine r_m (fun _=>?_) fun _=>?_|refine stq ?_|refine r_i ?_|refine r_x ?_)
  refine s_app rfl hU3.fr hS3 (ys := bv x) rfl ?_ (bv_ok _) (fun v4 s4 W4 hU4 hS4 hN4 => ?_)
  · simp only [bv_length, List.length_append, maxL]; omega
  have hl4 := hU4.at hU3.fr hl3 (hS3.ne hl3 rfl)
  have := hS4.cel
  repeat' (first|refine r_a ?_|refine stp ?_|refine r_l ?_|refine r_c ?_|refine r_t fun _=>?_|refine r_f fun _=>?_|refine r_m (fun _=>?_) fun _=>?_|refine stq ?_|refine r_i ?_|refine r_x ?_)
  refine s_st rfl hU4.fr hl4 fun s5 hU5 hl5 => ?_
  repeat' (first|refine r_a ?_|refine stp ?_|refine r_l ?_|refine r_c ?_|refine r_t fun _=>?_|refine r_f fun _=>?_|refine r_m (fun _=>?_) fun _=>?_|refine stq ?_|refine r_i ?_|refine r_x ?_)
  refine s_retn rfl ?_
  have hw4 : w ∉ W4 := hS4.ne hl4 rfl
  refine hk _ W4 ?_ ⟨v4, ?_, ?_⟩ ((hN3.trans hN4 hU3.le).trans0 hU2.le)
  · exact (((hU2.zero hU3).news (hN3.trans0 hU2.le) hU4 (fun _ h => h)).cons hU5).out .some
  · rw [out_lt (hF.lt hl)]; exact hl5
  · rw [← List.append_assoc, bv_append]
    exact (hS4.up hU4.fr hU5 (fun i hi he => hw4 (by simp at he; rw [← he]; exact hi))).out _

theorem c_Flag {s : St} {w : Nat} {bs W : List Nat} {f : Bool} {k : AV → St → Prop} (hF : s.Fr) (hw : Wr s w bs W) (hb : bs.length + 1 ≤ 20000000)
    (hk : Wrote s w bs W [if f then 1 else 0] k) : Cal (EV kn) 22 [.ptr w 0, .bool f] s k := by
  obtain ⟨b, hl, hS⟩ := hw
  refine cal_fn rfl (f := 22) rfl rfl ?_
  repeat' (first|refine r_a ?_|refine stp ?_|refine r_l ?_|refine r_c ?_|refine r_t fun _=>?_|refine r_f fun _=>?_|refine r_m (fun _=>?_) fun _=>?_|refine stq ?_|refine r_i ?_|refine r_x ?_)
  refine s_k rfl (c_works hF hl fun s2 hU2 => ⟨fun _ => ?_, fun h => absurd rfl h⟩)
  have hl2 := hU2.at hF hl (by simp)
  cases f
  ·
    repeat' (first|refine r_a ?_|refine stp ?_|refine r_l ?_|refine r_c ?_|refine r_t fun _=>?_|refine r_f fun _=>?_|refine r_m (fun _=>?_) fun _=>?_|refine stq ?_|refine r_i ?_|refine r_x ?_)
    refine s_mk1 rfl rfl hU2.fr fun s3 t hU3 hS3 ht => ?_
    refine s_app rfl hU3.fr (hS.up hF (hU2.zero hU3) (by simp)) (ys := bv [0]) rfl ?_ (bv_ok _) (fun v4 s4 W4 hU4 hS4 hN4 => ?_)
    · simp only [bv_length, List.length_cons, List.length_nil, maxL]; omega
    have hl4 := hU4.at hU3.fr (hU3.at hU2.fr hl2 (by simp)) (hS.ne hl rfl)
    have := hS4.cel
    repeat' (first|refine r_a ?_|refine stp ?_|refine r_l ?_|refine r_c ?_|refine r_t fun _=>?_|refine r_f fun _=>?_|refine r_m (fun _=>?_) fun _=>?_|refine stq ?_|refine r_i ?_|refine r_x ?_)
    refine s_st rfl hU4.fr hl4 fun s5 hU5 hl5 => ?_
    repeat' (first|refine r_a ?_|refine stp ?_|refine r_l ?_|refine r_c ?_|refine r_t fun _=>?_|refine r_f fun _=>?_|refine r_m (fun _=>?_) fun _=>?_|refine stq ?_|refine r_i ?_|refine r_x ?_)
    refine s_retn rfl ?_
    have hw4 : w ∉ W4 := hS4.ne hl4 rfl
    refine hk _ W4 ?_ ⟨v4, ?_, ?_⟩ (hN4.trans0 (Nat.le_trans hU2.le hU3.le))
    · exact (((hU2.zero hU3).zero hU4).cons hU5).out .some
    · rw [out_lt (hF.lt hl)]; exact hl5
    · rw [bv_append]
      exact (hS4.up hU4.fr hU5 (fun i hi he => hw4 (by simp at he; rw [← he]; exact hi))).out _
  ·
    repeat' (first|refine r_a ?_|refine stp ?_|refine r_l ?_|refine r_c ?_|refine r_t fun _=>?_|refine r_f fun _=>?_|refine r_m (fun _=>?_) fun _=>?_|refine stq ?_|refine r_i ?_|refine r_x ?_)
    refine s_mk1 rfl rfl hU2.fr fun s3 t hU3 hS3 ht => ?_
    refine s_app rfl hU3.fr (hS.up hF (hU2.zero hU3) (by simp)) (ys := bv [1]) rfl ?_ (bv_ok _) (fun v4 s4 W4 hU4 hS4 hN4 => ?_)
    · simp only [bv_length, List.length_cons, List.length_nil, maxL]; omega
    have hl4 := hU4.at hU3.fr (hU3.at hU2.fr hl2 (by simp)) (hS.ne hl rfl)
    have := hS4.cel
    repeat' (first|refine r_a ?_|refine stp ?_|refine r_l ?_|refine r_c ?_|refine r_t fun _=>?_|refine r_f fun _=>?_|refine r_m (fun _=>?_) fun _=>?_|refine stq ?_|refine r_i ?_|refine r_x ?_)
    refine s_st rfl hU4.fr hl4 fun s5 hU5 hl5 => ?_
    repeat' (first|refine r_a ?_|refine stp ?_|refine r_l ?_|refine r_c ?_|refine r_t fun _=>?_|refine r_f fun _=>?_|refine r_m (fun _=>?_) fun _=>?_|refine stq ?_|refine r_i ?_|refine r_x ?_)
    refine s_retn rfl ?_
    have hw4 : w ∉ W4 := hS4.ne hl4 rfl
    refine hk _ W4 ?_ ⟨v4, ?_, ?_⟩ (hN4.trans0 (Nat.le_trans hU2.le hU3.le))
    · exact (((hU2.zero hU3).zero hU4).cons hU5).out .some
    · rw [out_lt (hF.lt hl)]; exact hl5
    · rw [bv_append]
      exact (hS4.up hU4.fr hU5 (fun i hi he => hw4 (by simp at he; rw [← he]; exact hi))).out _

theorem c_Clone {s : St} {v : AV} {bs : List Nat} {k : AV → St → Prop} (hF : s.Fr) (hv : Ls v 1 (bv bs)) (hb : bs.length ≤ 20000000) (hk : ∀ v' s', Up s s' [] → Ls v' 1 (bv bs) → k v' s') : Cal (EV kn) 45 [v] s k := by
  refine cal_fn rfl (f := 45) rfl rfl ?_
  rcases hv.h with ⟨rfl, hn⟩ | ⟨t, rfl⟩
  ·
    repeat' (first|refine r_a ?_|refine stp ?_|refine r_l ?_|refine r_c ?_|refine r_t fun _=>?_|refine r_f fun _=>?_|refine r_m (fun _=>?_) fun _=>?_|refine stq ?_|refine r_i ?_|refine r_x ?_)
    refine s_ret rfl ?_
    exact hk _ _ ((Up.refl hF).out _) ⟨.inl ⟨rfl, hn⟩⟩
  ·
    repeat' (first|refine r_a ?_|refine stp ?_|refine r_l ?_|refine r_c ?_|refine r_t fun _=>?_|refine r_f fun _=>?_|refine r_m (fun _=>?_) fun _=>?_|refine stq ?_|refine r_i ?_|refine r_x ?_)
    refine s_mk0 rfl hF fun s2 t2 hU2 hS2 ht => ?_
    repeat' (first|refine r_a ?_|refine stp ?_|refine r_l ?_|refine r_c ?_|refine r_t fun _=>?_|refine r_f fun _=>?_|refine r_m (fun _=>?_) fun _=>?_|refine stq ?_|refine r_i ?_|refine r_x ?_)
    refine s_app rfl hU2.fr hS2 (ys := bv bs) rfl ?_ (bv_ok _) (fun v4 s4 W4 hU4 hS4 hN4 => ?_)
    · simp only [bv_length, List.length_nil, maxL]; omega
    repeat' (first|refine r_a ?_|refine stp ?_|refine r_l ?_|refine r_c ?_|refine r_t fun _=>?_|refine r_f fun _=>?_|refine r_m (fun _=>?_) fun _=>?_|refine stq ?_|refine r_i ?_|refine r_x ?_)
    refine s_ret rfl ?_
    refine hk _ _ ?_ hS4.ls
    refine Up.out (hU2.trans hU4 fun i hi _ => ⟨by simp, ?_⟩) _
    intro h
    simp at h; omega

theorem c_Bytes {s : St} {w : Nat} {bs W : List Nat} {k : AV → St → Prop} (hF : s.Fr) (hw : Wr s w bs W) (hb : bs.length ≤ 20000000) (hk : ∀ v' s', Up s s' [] → Ls v' 1 (bv bs) → k (.tup [v', .int .i64 0]) s') : Cal (EV kn) 23 [.ptr w 0] s k := by
  obtain ⟨b, hl, hS⟩ := hw
  refine cal_fn rfl (f := 23) rfl rfl ?_
  repeat' (first|refine r_a ?_|refine stp ?_|refine r_l ?_|refine r_c ?_|refine r_t fun _=>?_|refine r_f fun _=>?_|refine r_m (fun _=>?_) fun _=>?_|refine stq ?_|refine r_i ?_|refine r_x ?_)
  refine s_k rfl (c_Clone hF hS.ls hb fun v' s' hU hv => ?_)
  repeat' (first|refine r_a ?_|refine stp ?_|refine r_l ?_|refine r_c ?_|refine r_t fun _=>?_|refine r_f fun _=>?_|refine r_m (fun _=>?_) fun _=>?_|refine stq ?_|refine r_i ?_|refine r_x ?_)
  refine s_ret rfl ?_
  exact hk _ _ (hU.out _) hv
end Go.Am

namespace Go.Am
open T
attribute [local irreducible] Wp WpO Cal Rt Then Blocked Slc Lq Jq upd' φ0 lst

variable {kn : List AV → St → Option (AV × St)}

/-- A reader: what is left, and its error. -/
def Rd (s : St) (r : Nat) (rest : List Nat) (e : Int) : Prop := ∃ v a, look s.objs r = some (.cells 131 [v, .int .i64 a, .int .i64 e]) ∧ Ls v 1 (bv rest)

theorem Rd.up {s s' : St} {r : Nat} {b : List Nat} {e : Int} {V : List Nat} (h : Rd s r b e) (hF : s.Fr) (hU : Up s s' V) (hw : r ∉ V) : Rd s' r b e := by
  obtain ⟨v, a, h1, h2⟩ := h
  exact ⟨v, a, hU.at hF h1 hw, h2⟩

theorem c_NewReader {s : St} {v : AV} {bs : List Nat} {k : AV → St → Prop} (hF : s.Fr) (hv : Ls v 1 (bv bs)) (hb : bs.length ≤ 20000000) (hk : ∀ r s', Up s s' [] → Rd s' r bs 0 → s.next ≤ r → k (.ptr r 0) s') : Cal (EV kn) 36 [v] s k := by
  refine cal_fn rfl (f := 36) rfl rfl ?_
  repeat' (first|refine r_a ?_|refine stp ?_|refine r_l ?_|refine r_c ?_|refine r_t fun _=>?_|refine r_f fun _=>?_|refine r_m (fun _=>?_) fun _=>?_|refine stq ?_|refine r_i ?_|refine r_x ?_)
  refine s_k rfl (c_Clone hF hv hb fun v' s' hU hv' => ?_)
  have := hv'.cel
  repeat' (first|refine r_a ?_|refine stp ?_|refine r_l ?_|refine r_c ?_|refine r_t fun _=>?_|refine r_f fun _=>?_|refine r_m (fun _=>?_) fun _=>?_|refine stq ?_|refine r_i ?_|refine r_x ?_)
  refine s_bx rfl hU.fr fun s2 r hU2 hl hle => ?_
  repeat' (first|refine r_a ?_|refine stp ?_|refine r_l ?_|refine r_c ?_|refine r_t fun _=>?_|refine r_f fun _=>?_|refine r_m (fun _=>?_) fun _=>?_|refine stq ?_|refine r_i ?_|refine r_x ?_)
  refine s_ret rfl ?_
  exact hk r _ ((hU.then0 hU2).out .all) ⟨v', 0, hl, hv'⟩ (Nat.le_trans hU.le hle)

/-- How many bytes have the further bit. -/
def cnt : List Nat → Nat → Nat
  | c :: r, m + 1 => if 128 ≤ c then cnt r m + 1 else 0
  | _, _ => 0

theorem cnt_le : ∀ (b : List Nat) (m : Nat), cnt b m ≤ m ∧ cnt b m ≤ b.length
  | [], m => by simp [cnt]
  | c :: r, 0 => by simp [cnt]
  | c :: r, m + 1 => by
    have := cnt_le r m
    unfold cnt; split <;> simp <;> omega

/-- The count is reached where the first byte without the bit stands, or at an end. -/
theorem cnt_eq : ∀ (b : List Nat) (m j : Nat), (∀ i, i < j → 128 ≤ b.getD i 0) → j ≤ m → j ≤ b.length → (j = m ∨ j = b.length ∨ b.getD j 0 < 128) → cnt b m = j
  | [], m, j, _, _, h3, _ => by simp at h3; simp [cnt, h3]
  | c :: r, 0, j, _, h2, _, _ => by simp [cnt]; omega
  | c :: r, m + 1, 0, _, _, _, h4 => by
    rcases h4 with h | h | h
    · omega
    · simp at h
    · simp only [List.getD_cons_zero] at h; simp only [cnt, if_neg (show ¬ 128 ≤ c by omega)]
  | c :: r, m + 1, j + 1, h1, h2, h3, h4 => by
    have hc : 128 ≤ c := h1 0 (by omega)
    simp only [cnt, if_pos hc]
    rw [cnt_eq r m j (fun i hi => by have := h1 (i + 1) (by omega); simpa using this) (by omega) (by simpa using h3) (by simpa using h4)]

def val : List Nat → Nat
  | [] => 0
  | c :: r => c % 128 + 128 * val r

def parseN (b : List Nat) : Option (Nat × Nat) :=
  if cnt b 9 = 9 ∨ cnt b 9 = b.length ∨ (0 < cnt b 9 ∧ b.getD (cnt b 9) 0 = 0) then none else some (val (b.take (cnt b 9 + 1)), cnt b 9 + 1)

/-- What a parser gives back. -/
def Parsed (r : Option (Nat × Nat)) (kd : IntKind) (s : St) (k : AV → St → Prop) : Prop :=
  ∀ s', Up s s' [] → (∀ u n, r = some (u, n) → k (.tup [.int kd u, .int .i64 n, .int .i64 0]) s') ∧ (r = none → ∀ e : Int, e ≠ 0 → k (.tup [.int kd 0, .int .i64 0, .int .i64 e]) s')

theorem val_lt : ∀ (l : List Nat), val l < 128 ^ l.length
  | [] => by simp [val]
  | c :: r => by
    have := val_lt r
    simp only [val, List.length_cons, Nat.pow_succ]
    omega
theorem val_lt' (l : List Nat) (h : l.length ≤ 8) : val l < 72057594037927936 :=
  Nat.lt_of_lt_of_le (val_lt l) (Nat.le_trans (Nat.pow_le_pow_right (by decide) h) (by decide))

theorem drop_pred {bs : List Nat} {n m b : Nat} (h0 : 1 ≤ m) (hm : m ≤ n) (hb : bs[m - 1]? = some b) : (bs.take n).drop (m - 1) = b :: (bs.take n).drop m := by
  have h1 : (bs.take n)[m - 1]? = some b := by rw [List.getElem?_take, if_pos (by omega)]; exact hb
  obtain ⟨hlt, he⟩ := List.getElem?_eq_some_iff.1 h1
  rw [List.drop_eq_getElem_cons hlt, he, show m - 1 + 1 = m by omega]

theorem orVal {V b : Nat} (hV : V < 72057594037927936) (hb : b < 256) :
    AV.int .u64 (wrapF .u64 ((Nat.lor (toN .u64 (wrapF .u64 ((V : Int) * 128))) (toN .u64 (wrapF .u64 (wrapF .u8 ((Nat.land (toN .u8 (b : Int)) (toN .u8 127) : Nat) : Int)))) : Nat) : Int)) = AV.int .u64 ((b % 128 + 128 * V : Nat) : Int) := by
  rw [show toN .u8 127 = 127 from rfl, show toN .u8 (b : Int) = b by simp only [toN, bitsOf]; rw [show Int.ofNat (2 ^ 8) = 256 from rfl]; omega]
  have e1 : Nat.land b 127 = b % 128 := Nat.and_two_pow_sub_one_eq_mod b 7
  rw [e1, byteOf, wrapU (n := ((b % 128 % 256 : Nat) : Int)) (by omega) (by omega), wrapU (n := (V : Int) * 128) (by omega) (by omega)]
  have e2 : toN .u64 ((V : Int) * 128) = 2 ^ 7 * V := by simp only [toN, bitsOf]; rw [show Int.ofNat (2 ^ 64) = 18446744073709551616 from rfl]; omega
  have e3 : toN .u64 ((b % 128 % 256 : Nat) : Int) = b % 128 := by simp only [toN, bitsOf]; rw [show Int.ofNat (2 ^ 64) = 18446744073709551616 from rfl]; omega
  have e4 : Nat.lor (2 ^ 7 * V) (b % 128) = 2 ^ 7 * V + b % 128 := (Nat.two_pow_add_eq_or_of_lt (by omega) V).symm
  rw [e2, e3, e4, wrapU (by omega) (by omega)]
  congr 1; omega

theorem c_parseNatural {s : St} {v : AV} {bs : List Nat} {k : AV → St → Prop} (hF : s.Fr) (hv : Ls v 1 (bv bs)) (hb : bs.length ≤ 20000000) (h256 : ∀ c ∈ bs, c < 256) (hk : Parsed (parseN bs) .u64 s k) : Cal (EV kn) 142 [v, .int .i64 9] s k := by
  refine cal_fn rfl (f := 142) rfl rfl ?_
  have hlen := bv_length bs
  repeat' (first|refine r_a ?_|refine stp ?_|refine r_l ?_|refine r_c ?_)
  refine s_q (s_lpj (fun (j : Nat) φ s1 => s1 = s ∧ At φ 0 v true ∧ At φ 1 (.int .i64 9) true ∧ At φ 7 (.int .i64 j) true ∧ (∀ i, i < j → 128 ≤ bs.getD i 0) ∧ j ≤ 9 ∧ j ≤ bs.length) (fun j => 9 - j)
    (fun φ s1 => s1 = s ∧ At φ 0 v true ∧ At φ 1 (.int .i64 9) true ∧ At φ 7 (.int .i64 (cnt bs 9)) true) 0 ?_ ?_ ?_)
  · exact ⟨rfl, at_of rfl, at_of rfl, at_of rfl, fun i hi => by omega, by omega, by omega⟩
  · rintro j φ s1 ⟨rfl, h0, h1, h7, hj, hj9, hjl⟩
    refine s_q ?_
    repeat' (first|refine r_a ?_|refine stp ?_|refine r_l ?_|refine r_c ?_|refine r_t fun _=>?_|refine r_f fun _=>?_|refine r_m (fun _=>?_) fun _=>?_)
    -- j < length, j < 9: the byte
    · obtain ⟨c, hc⟩ : ∃ c, bs[j]? = some c := ⟨_, List.getElem?_eq_getElem (by omega)⟩
      have hcd : bs.getD j 0 = c := by rw [List.getD, hc]; rfl
      refine s_ixlg rfl (by omega) (v := .int .u8 (c : Int)) (by rw [bv_get, Int.toNat_natCast, hc]; rfl) ?_
      repeat' (first|refine r_a ?_|refine stp ?_|refine r_l ?_|refine r_c ?_|refine r_t fun _=>?_|refine r_f fun _=>?_|refine r_m (fun _=>?_) fun _=>?_)
      · refine s_blk ?_
        repeat' (first|refine r_a ?_|refine stp ?_|refine r_l ?_|refine r_c ?_)
        refine ⟨j + 1, by omega, rfl, at_of rfl, at_of rfl, (at_of (v := .int .i64 ((j : Int) + 1)) rfl).eq_of (by simp), fun i hi => ?_, by omega, by omega⟩
        by_cases h : i = j
        · subst h; omega
        · exact hj i (by omega)
      · rw [← cnt_eq bs 9 j hj hj9 hjl (by omega)] at h7 ⊢
        exact ⟨rfl, at_of rfl, at_of rfl, at_of rfl⟩
    all_goals
      rw [← cnt_eq bs 9 j hj hj9 hjl (by omega)] at h7 ⊢
      exact ⟨rfl, at_of rfl, at_of rfl, at_of rfl⟩
  · rintro φ s1 ⟨rfl, h0, h1, h7⟩
    have hle := cnt_le bs 9
    by_cases hjl : cnt bs 9 < bs.length
    · obtain ⟨c, hc⟩ : ∃ c, bs[cnt bs 9]? = some c := ⟨_, List.getElem?_eq_getElem (by omega)⟩
      have hcd : bs.getD (cnt bs 9) 0 = c := by rw [List.getD, hc]; rfl
      have hx : (bv bs)[((cnt bs 9 : Nat) : Int).toNat]? = some (.int .u8 (c : Int)) := by rw [bv_get, Int.toNat_natCast, hc]; rfl
      repeat' (first|refine r_a ?_|refine stp ?_|refine r_l ?_|refine r_c ?_|refine r_t fun _=>?_|refine r_f fun _=>?_|refine r_m (fun _=>?_) fun _=>?_|refine stq ?_|refine r_i ?_|refine r_x ?_)
      · refine s_ret rfl ?_
        exact (hk _ ((Up.refl hF).out _)).2 (by rw [parseN, if_pos (.inl (by omega))]) _ (by decide)
      · refine s_ret rfl ?_
        exact (hk _ ((Up.refl hF).out _)).2 (by rw [parseN, if_pos (.inr (.inr ⟨by omega, by omega⟩))]) _ (by decide)
      all_goals
        have hok : parseN bs = some (val (bs.take (cnt bs 9 + 1)), cnt bs 9 + 1) := by
          rw [parseN, if_neg]
          rintro (h | h | ⟨h, h'⟩) <;> omega
        refine s_lpj (fun (m : Nat) φ s2 => s2 = s1 ∧ At φ 0 v true ∧ At φ 7 (.int .i64 (cnt bs 9)) true ∧ At φ 8 (.int .u64 (val ((bs.take (cnt bs 9 + 1)).drop m))) true ∧ At φ 9 (.int .i64 ((m : Int) - 1)) true ∧ m ≤ cnt bs 9 + 1) (fun m => m)
          (fun φ s2 => s2 = s1 ∧ At φ 7 (.int .i64 (cnt bs 9)) true ∧ At φ 8 (.int .u64 (val (bs.take (cnt bs 9 + 1)))) true) (cnt bs 9 + 1) ?_ ?_ ?_
        · refine ⟨rfl, at_of rfl, at_of rfl, (at_of (v := .int .u64 0) rfl).eq_of ?_, (at_of (v := .int .i64 (cnt bs 9)) rfl).eq_of ?_, by omega⟩
          · rw [List.drop_eq_nil_of_le (by rw [List.length_take]; omega)]; rfl
          · congr 1; omega
        · rintro m φ s2 ⟨rfl, g0, g7, g8, g9, hm⟩
          refine s_q ?_
          by_cases h0 : 1 ≤ m
          · obtain ⟨b, hbm⟩ : ∃ b, bs[m - 1]? = some b := ⟨_, List.getElem?_eq_getElem (by omega)⟩
            have hx1 : (bv bs)[((m : Int) - 1).toNat]? = some (.int .u8 (b : Int)) := by rw [bv_get, show ((m : Int) - 1).toNat = m - 1 by omega, hbm]; rfl
            repeat' (first|refine r_a ?_|refine stp ?_|refine r_l ?_|refine r_c ?_|refine r_t fun _=>?_|refine r_f fun _=>?_|refine r_m (fun _=>?_) fun _=>?_|refine stq ?_|refine r_i ?_|refine r_x ?_)
            have hb256 := h256 b (List.mem_of_getElem? hbm)
            have hlt : val ((bs.take (cnt bs 9 + 1)).drop m) < 72057594037927936 := val_lt' _ (by rw [List.length_drop, List.length_take]; omega)
            refine ⟨m - 1, by omega, rfl, at_of rfl, at_of rfl, (at_of rfl).eq_of ?_, (at_of rfl).eq_of ?_, by omega⟩
            · rw [drop_pred h0 hm hbm, val, orVal hlt hb256]
            · congr 1; omega
          ·
            repeat' (first|refine r_a ?_|refine stp ?_|refine r_l ?_|refine r_c ?_|refine r_t fun _=>?_|refine r_f fun _=>?_|refine r_m (fun _=>?_) fun _=>?_|refine stq ?_|refine r_i ?_|refine r_x ?_)
            have : m = 0 := by omega
            subst this
            exact ⟨rfl, at_of rfl, at_of rfl⟩
        · rintro φ s2 ⟨rfl, g7, g8⟩
          repeat' (first|refine r_a ?_|refine stp ?_|refine r_l ?_|refine r_c ?_|refine r_t fun _=>?_|refine r_f fun _=>?_|refine r_m (fun _=>?_) fun _=>?_|refine stq ?_|refine r_i ?_|refine r_x ?_)
          refine s_ret rfl ?_
          have := (hk _ ((Up.refl hF).out .none)).1 _ _ hok
          rw [Int.natCast_add] at this
          exact this
    ·
      repeat' (first|refine r_a ?_|refine stp ?_|refine r_l ?_|refine r_c ?_|refine r_t fun _=>?_|refine r_f fun _=>?_|refine r_m (fun _=>?_) fun _=>?_|refine stq ?_|refine r_i ?_|refine r_x ?_)
      · refine s_ret rfl ?_
        exact (hk _ ((Up.refl hF).out _)).2 (by rw [parseN, if_pos (.inl (by omega))]) _ (by decide)
      · refine s_ret rfl ?_
        exact (hk _ ((Up.refl hF).out _)).2 (by rw [parseN, if_pos (.inr (.inl (by omega)))]) _ (by decide)
end Go.Am

namespace Go.Am
open T
attribute [local irreducible] Wp WpO Cal Rt Then Blocked Slc Lq Jq upd' φ0 lst

variable {kn : List AV → St → Option (AV × St)}

theorem parseN_spec {b : List Nat} {u n : Nat} (h : parseN b = some (u, n)) : n ≤ b.length ∧ 1 ≤ n ∧ n ≤ 9 ∧ u < 9223372036854775808 := by
  have hle := cnt_le b 9
  unfold parseN at h
  split at h
  · cases h
  · rename_i hn
    cases h
    refine ⟨?_, by omega, by omega, ?_⟩
    · by_cases e : cnt b 9 = b.length
      · exact absurd (.inr (.inl e)) hn
      · omega
    · have h9 : cnt b 9 ≠ 9 := fun e => hn (.inl e)
      exact Nat.lt_of_lt_of_le (val_lt _) (Nat.le_trans (Nat.pow_le_pow_right (by decide) (show _ ≤ 9 by rw [List.length_take]; omega)) (by decide))

theorem wrapI {n : Nat} (h : n < 9223372036854775808) : wrapF .i64 (n : Int) = n := wrap64 (by omega) (by omega)

/-- What a parser of values gives back. -/
def ParsedV (r : Option (AV × Nat)) (s : St) (k : AV → St → Prop) : Prop :=
  ∀ s', Up s s' [] → (∀ v n, r = some (v, n) → k (.tup [v, .int .i64 n, .int .i64 0]) s') ∧ (r = none → ∀ (v n : AV) (e : Int), e ≠ 0 → k (.tup [v, n, .int .i64 e]) s')

theorem c_Parse {s : St} {v : AV} {bs : List Nat} {k : AV → St → Prop} (hF : s.Fr) (hv : Ls v 1 (bv bs)) (hb : bs.length ≤ 20000000) (h256 : ∀ c ∈ bs, c < 256) (hk : Parsed (parseN bs) .i64 s k) : Cal (EV kn) 74 [v] s k := by
  refine cal_fn rfl (f := 74) rfl rfl ?_
  repeat' (first|refine r_a ?_|refine stp ?_|refine r_l ?_|refine r_c ?_|refine r_t fun _=>?_|refine r_f fun _=>?_|refine r_m (fun _=>?_) fun _=>?_|refine stq ?_|refine r_i ?_|refine r_x ?_)
  refine s_k rfl (c_parseNatural hF hv hb h256 fun s' hU => ⟨fun u n e => ?_, fun hn e he => ?_⟩)
  ·
    repeat' (first|refine r_a ?_|refine stp ?_|refine r_l ?_|refine r_c ?_|refine r_t fun _=>?_|refine r_f fun _=>?_|refine r_m (fun _=>?_) fun _=>?_|refine stq ?_|refine r_i ?_|refine r_x ?_)
    rw [wrapI (parseN_spec e).2.2.2]
    refine s_ret rfl ?_
    exact (hk _ (hU.out _)).1 u n e
  ·
    repeat' (first|refine r_a ?_|refine stp ?_|refine r_l ?_|refine r_c ?_|refine r_t fun _=>?_|refine r_f fun _=>?_|refine r_m (fun _=>?_) fun _=>?_|refine stq ?_|refine r_i ?_|refine r_x ?_)
    refine s_ret rfl ?_
    exact (hk _ (hU.out _)).2 hn e he

def pNum (most : Nat) (b : List Nat) : Option (Nat × Nat) :=
  match parseN b with
  | some (u, n) => if u ≤ most then some (u, n) else none
  | none => none
def pText (most : Nat) (b : List Nat) : Option (List Nat × Nat) :=
  match parseN b with
  | some (u, n) => if u ≤ most ∧ u ≤ 16777216 ∧ u + n ≤ b.length then some ((b.drop n).take u, n + u) else none
  | none => none
def pFlag (b : List Nat) : Option (Bool × Nat) :=
  match b with
  | c :: _ => if c ≤ 1 then some (decide (c = 1), 1) else none
  | [] => none

/-- A reader that fails reads nothing more. -/
def rd {α : Type} (p : List Nat → Option (α × Nat)) (zero : α) : Option (List Nat) → α × Option (List Nat)
  | none => (zero, none)
  | some b => match p b with
    | none => (zero, none)
    | some (v, n) => (v, some (b.drop n))

theorem c_pNum {s : St} {v : AV} {bs : List Nat} {p most : Nat} {k : AV → St → Prop} (hF : s.Fr) (hv : Ls v 1 (bv bs)) (hb : bs.length ≤ 20000000) (h256 : ∀ c ∈ bs, c < 256) (hl : look s.objs p = some (.cells 3 [.int .i64 most]))
    (hk : ParsedV ((pNum most bs).map fun r => (.int .i64 (r.1 : Int), r.2)) s k) : Cal (EV kn) 73 [v, .ptr p 0] s k := by
  refine cal_fn rfl (f := 73) rfl rfl ?_
  repeat' (first|refine r_a ?_|refine stp ?_|refine r_l ?_|refine r_c ?_|refine r_t fun _=>?_|refine r_f fun _=>?_|refine r_m (fun _=>?_) fun _=>?_|refine stq ?_|refine r_i ?_|refine r_x ?_)
  refine s_k rfl (c_Parse hF hv hb h256 fun s' hU => ⟨fun u n e => ?_, fun hn e he => ?_⟩)
  · have hl' := hU.at hF hl (by simp)
    repeat' (first|refine r_a ?_|refine stp ?_|refine r_l ?_|refine r_c ?_|refine r_t fun _=>?_|refine r_f fun _=>?_|refine r_m (fun _=>?_) fun _=>?_|refine stq ?_|refine r_i ?_|refine r_x ?_)
    · refine s_ret rfl ?_
      exact (hk _ (hU.out _)).2 (by simp only [pNum, e]; rw [if_neg (by omega)]; rfl) _ _ _ (by decide)
    · refine s_ret rfl ?_
      exact (hk _ (hU.out _)).1 _ _ (by simp only [pNum, e]; rw [if_pos (by omega)]; rfl)
  ·
    repeat' (first|refine r_a ?_|refine stp ?_|refine r_l ?_|refine r_c ?_|refine r_t fun _=>?_|refine r_f fun _=>?_|refine r_m (fun _=>?_) fun _=>?_|refine stq ?_|refine r_i ?_|refine r_x ?_)
    refine s_ret rfl ?_
    exact (hk _ (hU.out _)).2 (by simp only [pNum, hn]; rfl) _ _ _ he

theorem c_pText {s : St} {v : AV} {bs : List Nat} {p most : Nat} {k : AV → St → Prop} (hF : s.Fr) (hv : Ls v 1 (bv bs)) (hb : bs.length ≤ 20000000) (h256 : ∀ c ∈ bs, c < 256) (hl : look s.objs p = some (.cells 3 [.int .i64 most]))
    (hk : ParsedV ((pText most bs).map fun r => (.str r.1, r.2)) s k) : Cal (EV kn) 76 [v, .ptr p 0] s k := by
  refine cal_fn rfl (f := 76) rfl rfl ?_
  have hlen := bv_length bs
  repeat' (first|refine r_a ?_|refine stp ?_|refine r_l ?_|refine r_c ?_|refine r_t fun _=>?_|refine r_f fun _=>?_|refine r_m (fun _=>?_) fun _=>?_|refine stq ?_|refine r_i ?_|refine r_x ?_)
  refine s_k rfl (c_Parse hF hv hb h256 fun s' hU => ⟨fun u n e => ?_, fun hn e he => ?_⟩)
  · have hl' := hU.at hF hl (by simp)
    have hsp := parseN_spec e
    repeat' (first|refine r_a ?_|refine stp ?_|refine r_l ?_|refine r_c ?_|refine r_t fun _=>?_|refine r_f fun _=>?_|refine r_m (fun _=>?_) fun _=>?_|refine stq ?_|refine r_i ?_|refine r_x ?_)
    iterate 3
      · refine s_ret rfl ?_
        exact (hk _ (hU.out _)).2 (by simp only [pText, e]; rw [if_neg (by omega)]; rfl) _ _ _ (by decide)
    refine s_sll rfl (by omega) fun v2 hv2 => ?_
    have hv3 : Ls v2 1 (bv ((bs.drop n).take u)) := by
      have e1 : ((bv bs).take ((n : Int) + u).toNat).drop (n : Int).toNat = bv ((bs.drop n).take u) := by
        rw [show ((n : Int) + u).toNat = n + u by omega, Int.toNat_natCast]
        simp only [bv, ← List.map_take, ← List.map_drop]
        rw [List.drop_take, show n + u - n = u by omega]
      rw [e1] at hv2; exact hv2
    refine s_b2s rfl hv3 (fun c hc => h256 c (List.mem_of_mem_drop (List.mem_of_mem_take hc))) ?_
    repeat' (first|refine r_a ?_|refine stp ?_|refine r_l ?_|refine r_c ?_|refine r_t fun _=>?_|refine r_f fun _=>?_|refine r_m (fun _=>?_) fun _=>?_|refine stq ?_|refine r_i ?_|refine r_x ?_)
    refine s_ret rfl ?_
    have := (hk _ (hU.out .none)).1 _ _ (by simp only [pText, e]; rw [if_pos (by omega)]; rfl)
    rw [Int.natCast_add] at this
    exact this
  ·
    repeat' (first|refine r_a ?_|refine stp ?_|refine r_l ?_|refine r_c ?_|refine r_t fun _=>?_|refine r_f fun _=>?_|refine r_m (fun _=>?_) fun _=>?_|refine stq ?_|refine r_i ?_|refine r_x ?_)
    refine s_ret rfl ?_
    exact (hk _ (hU.out _)).2 (by simp only [pText, hn]; rfl) _ _ _ he

theorem c_pFlag {s : St} {v : AV} {bs : List Nat} {k : AV → St → Prop} (hF : s.Fr) (hv : Ls v 1 (bv bs))
    (hk : ParsedV ((pFlag bs).map fun r => (.bool r.1, r.2)) s k) : Cal (EV kn) 78 [v] s k := by
  refine cal_fn rfl (f := 78) rfl rfl ?_
  have hlen := bv_length bs
  cases bs with
  | nil =>
    simp only [List.length_nil] at hlen
    repeat' (first|refine r_a ?_|refine stp ?_|refine r_l ?_|refine r_c ?_|refine r_t fun _=>?_|refine r_f fun _=>?_|refine r_m (fun _=>?_) fun _=>?_|refine stq ?_|refine r_i ?_|refine r_x ?_)
    refine s_ret rfl ?_
    exact (hk _ ((Up.refl hF).out _)).2 rfl _ _ _ (by decide)
  | cons c r =>
    simp only [List.length_cons] at hlen
    have hx : (bv (c :: r))[(0 : Int).toNat]? = some (.int .u8 (c : Int)) := rfl
    repeat' (first|refine r_a ?_|refine stp ?_|refine r_l ?_|refine r_c ?_|refine r_t fun _=>?_|refine r_f fun _=>?_|refine r_m (fun _=>?_) fun _=>?_|refine stq ?_|refine r_i ?_|refine r_x ?_)
    · refine s_ret rfl ?_
      exact (hk _ ((Up.refl hF).out _)).2 (by simp only [pFlag]; rw [if_neg (by omega)]; rfl) _ _ _ (by decide)
    all_goals
      refine s_ret rfl ?_
      exact (hk _ ((Up.refl hF).out .none)).1 _ 1 (by simp only [pFlag]; rw [if_pos (by omega)]; simp; omega)

/-- A reader. -/
def RS (s : St) (r : Nat) : Option (List Nat) → Prop
  | some b => Rd s r b 0 ∧ b.length ≤ 20000000 ∧ ∀ c ∈ b, c < 256
  | none => ∃ b e, e ≠ 0 ∧ Rd s r b e

theorem RS.up {s s' : St} {r : Nat} {o : Option (List Nat)} {V : List Nat} (h : RS s r o) (hF : s.Fr) (hU : Up s s' V) (hw : r ∉ V) : RS s' r o := by
  cases o with
  | some b => exact ⟨h.1.up hF hU hw, h.2⟩
  | none => obtain ⟨b, e, h1, h2⟩ := h; exact ⟨b, e, h1, h2.up hF hU hw⟩
theorem RS.lt {s : St} {r : Nat} {o : Option (List Nat)} (h : RS s r o) (hF : s.Fr) : r < s.next := by
  cases o with
  | some b => obtain ⟨⟨v, a, h, _⟩, _⟩ := h; exact hF.lt h
  | none => obtain ⟨b, e, _, v, a, h, _⟩ := h; exact hF.lt h
theorem RS.ne {s : St} {r : Nat} {o : Option (List Nat)} (h : RS s r o) {i ty : Nat} {cs : List AV} (hl : look s.objs i = some (.cells ty cs)) (ht : ty ≠ 131) : i ≠ r := by
  rintro rfl
  cases o with
  | some b => obtain ⟨⟨v, a, h, _⟩, _⟩ := h; rw [hl] at h; cases h; exact ht rfl
  | none => obtain ⟨b, e, _, v, a, h, _⟩ := h; rw [hl] at h; cases h; exact ht rfl
theorem RS.out {s s1 : St} {r : Nat} {o : Option (List Nat)} (h : RS s1 r o) (hr : r < s.next) (keep : Keep) : RS (s1.out keep s.next) r o := by
  cases o with
  | some b => obtain ⟨⟨v, a, h, h2⟩, h3⟩ := h; exact ⟨⟨v, a, by rw [out_lt hr]; exact h, h2⟩, h3⟩
  | none => obtain ⟨b, e, h1, v, a, h, h2⟩ := h; exact ⟨b, e, h1, v, a, by rw [out_lt hr]; exact h, h2⟩

theorem pNum_le {most : Nat} {b : List Nat} {u n : Nat} (h : pNum most b = some (u, n)) : n ≤ b.length := by
  unfold pNum at h
  cases hp : parseN b with
  | none => rw [hp] at h; cases h
  | some q =>
    obtain ⟨x, y⟩ := q
    rw [hp] at h; simp only at h
    split at h
    · cases h; exact (parseN_spec hp).1
    · cases h
theorem pText_le {most : Nat} {b u : List Nat} {n : Nat} (h : pText most b = some (u, n)) : n ≤ b.length := by
  unfold pText at h
  cases hp : parseN b with
  | none => rw [hp] at h; cases h
  | some q =>
    obtain ⟨x, y⟩ := q
    rw [hp] at h; simp only at h
    split at h
    · cases h; omega
    · cases h
theorem pFlag_le {b : List Nat} {u : Bool} {n : Nat} (h : pFlag b = some (u, n)) : n ≤ b.length := by
  unfold pFlag at h
  split at h
  · split at h
    · cases h; simp
    · cases h
  · cases h

theorem c_read72 {s : St} {r : Nat} {o : Option (List Nat)} {p most : Nat} {k : AV → St → Prop} (hF : s.Fr) (h : RS s r o) (hl : look s.objs p = some (.cells 3 [.int .i64 most]))
    (hk : ∀ s', Up s s' [r] → RS s' r (rd (pNum most) 0 o).2 → k ((fun x : Nat => AV.int .i64 x) (rd (pNum most) 0 o).1) s') : Cal (EV kn) 72 [.ptr r 0, .fn 73 [] [.ptr p 0]] s k := by
  have hr := h.lt hF
  refine cal_fn rfl (f := 72) rfl rfl ?_
  cases o with
  | none =>
    obtain ⟨b, e, he, v, a, hR, hv⟩ := h
    repeat' (first|refine r_a ?_|refine stp ?_|refine r_l ?_|refine r_c ?_|refine r_t fun _=>?_|refine r_f fun _=>?_|refine r_m (fun _=>?_) fun _=>?_|refine stq ?_|refine r_i ?_|refine r_x ?_)
    refine s_ret rfl ?_
    exact hk _ (((Up.refl hF).mono (fun _ _ h => by cases h)).out _) (RS.out (o := none) ⟨b, e, he, v, a, hR, hv⟩ hr _)
  | some b =>
    obtain ⟨⟨v, a, hR, hv⟩, hb, h256⟩ := h
    repeat' (first|refine r_a ?_|refine stp ?_|refine r_l ?_|refine r_c ?_|refine r_t fun _=>?_|refine r_f fun _=>?_|refine r_m (fun _=>?_) fun _=>?_|refine stq ?_|refine r_i ?_|refine r_x ?_)
    refine s_kf rfl (c_pNum hF hv hb h256 hl fun s' hU => ⟨fun x n e => ?_, fun hn x n e he => ?_⟩)
    · have hR' := hU.at hF hR (by simp)
      obtain ⟨x', e', rfl⟩ : ∃ x', (pNum most) b = some (x', n) ∧ x = (fun x : Nat => AV.int .i64 x) x' := by
        cases hp : (pNum most) b with
        | none => rw [hp] at e; cases e
        | some q => rw [hp] at e; cases e; exact ⟨_, rfl, rfl⟩
      have hn : n ≤ b.length := pNum_le e'
      have hlen := bv_length b
      repeat' (first|refine r_a ?_|refine stp ?_|refine r_l ?_|refine r_c ?_|refine r_t fun _=>?_|refine r_f fun _=>?_|refine r_m (fun _=>?_) fun _=>?_|refine stq ?_|refine r_i ?_|refine r_x ?_)
      refine s_slfl rfl (by omega) fun v2 hv2 => ?_
      have hc2 := hv2.cel
      repeat' (first|refine r_a ?_|refine stp ?_|refine r_l ?_|refine r_c ?_|refine r_t fun _=>?_|refine r_f fun _=>?_|refine r_m (fun _=>?_) fun _=>?_|refine stq ?_|refine r_i ?_|refine r_x ?_)
      refine s_st rfl hU.fr hR' fun s2 hU2 hR2 => ?_
      repeat' (first|refine r_a ?_|refine stp ?_|refine r_l ?_|refine r_c ?_|refine r_t fun _=>?_|refine r_f fun _=>?_|refine r_m (fun _=>?_) fun _=>?_|refine stq ?_|refine r_i ?_|refine r_x ?_)
      all_goals
        refine s_st rfl hU2.fr hR2 fun s3 hU3 hR3 => ?_
        repeat' (first|refine r_a ?_|refine stp ?_|refine r_l ?_|refine r_c ?_|refine r_t fun _=>?_|refine r_f fun _=>?_|refine r_m (fun _=>?_) fun _=>?_|refine stq ?_|refine r_i ?_|refine r_x ?_)
        refine s_ret rfl ?_
        have hrd : rd (pNum most) 0 (some b) = (x', some (b.drop n)) := by simp only [rd, e']
        rw [hrd] at hk
        refine hk _ (((hU.zero hU2).trans hU3 (fun _ _ h => ⟨h, h⟩)).out _) ?_
        refine RS.out (o := some _) ⟨⟨v2, _, hR3, ?_⟩, by rw [List.length_drop]; omega, fun c hc => h256 c (List.mem_of_mem_drop hc)⟩ hr _
        rw [Int.toNat_natCast] at hv2
        simp only [bv, List.map_drop] at hv2 ⊢; exact hv2
    · have hR' := hU.at hF hR (by simp)
      repeat' (first|refine r_a ?_|refine stp ?_|refine r_l ?_|refine r_c ?_|refine r_t fun _=>?_|refine r_f fun _=>?_|refine r_m (fun _=>?_) fun _=>?_|refine stq ?_|refine r_i ?_|refine r_x ?_)
      refine s_st rfl hU.fr hR' fun s2 hU2 hR2 => ?_
      repeat' (first|refine r_a ?_|refine stp ?_|refine r_l ?_|refine r_c ?_|refine r_t fun _=>?_|refine r_f fun _=>?_|refine r_m (fun _=>?_) fun _=>?_|refine stq ?_|refine r_i ?_|refine r_x ?_)
      refine s_ret rfl ?_
      have hp : (pNum most) b = none := by
        cases hp : (pNum most) b with
        | none => rfl
        | some q => rw [hp] at hn; cases hn
      have hrd : rd (pNum most) 0 (some b) = (0, none) := by simp only [rd, hp]
      rw [hrd] at hk
      exact hk _ ((hU.zero hU2).out _) (RS.out (o := none) ⟨b, e, he, v, _, hR2, hv⟩ hr _)

theorem c_read75 {s : St} {r : Nat} {o : Option (List Nat)} {p most : Nat} {k : AV → St → Prop} (hF : s.Fr) (h : RS s r o) (hl : look s.objs p = some (.cells 3 [.int .i64 most]))
    (hk : ∀ s', Up s s' [r] → RS s' r (rd (pText most) [] o).2 → k ((fun x : List Nat => AV.str x) (rd (pText most) [] o).1) s') : Cal (EV kn) 75 [.ptr r 0, .fn 76 [] [.ptr p 0]] s k := by
  have hr := h.lt hF
  refine cal_fn rfl (f := 75) rfl rfl ?_
  cases o with
  | none =>
    obtain ⟨b, e, he, v, a, hR, hv⟩ := h
    repeat' (first|refine r_a ?_|refine stp ?_|refine r_l ?_|refine r_c ?_|refine r_t fun _=>?_|refine r_f fun _=>?_|refine r_m (fun _=>?_) fun _=>?_|refine stq ?_|refine r_i ?_|refine r_x ?_)
    refine s_ret rfl ?_
    exact hk _ (((Up.refl hF).mono (fun _ _ h => by cases h)).out _) (RS.out (o := none) ⟨b, e, he, v, a, hR, hv⟩ hr _)
  | some b =>
    obtain ⟨⟨v, a, hR, hv⟩, hb, h256⟩ := h
    repeat' (first|refine r_a ?_|refine stp ?_|refine r_l ?_|refine r_c ?_|refine r_t fun _=>?_|refine r_f fun _=>?_|refine r_m (fun _=>?_) fun _=>?_|refine stq ?_|refine r_i ?_|refine r_x ?_)
    refine s_kf rfl (c_pText hF hv hb h256 hl fun s' hU => ⟨fun x n e => ?_, fun hn x n e he => ?_⟩)
    · have hR' := hU.at hF hR (by simp)
      obtain ⟨x', e', rfl⟩ : ∃ x', (pText most) b = some (x', n) ∧ x = (fun x : List Nat => AV.str x) x' := by
        cases hp : (pText most) b with
        | none => rw [hp] at e; cases e
        | some q => rw [hp] at e; cases e; exact ⟨_, rfl, rfl⟩
      have hn : n ≤ b.length := pText_le e'
      have hlen := bv_length b
      repeat' (first|refine r_a ?_|refine stp ?_|refine r_l ?_|refine r_c ?_|refine r_t fun _=>?_|refine r_f fun _=>?_|refine r_m (fun _=>?_) fun _=>?_|refine stq ?_|refine r_i ?_|refine r_x ?_)
      refine s_slfl rfl (by omega) fun v2 hv2 => ?_
      have hc2 := hv2.cel
      repeat' (first|refine r_a ?_|refine stp ?_|refine r_l ?_|refine r_c ?_|refine r_t fun _=>?_|refine r_f fun _=>?_|refine r_m (fun _=>?_) fun _=>?_|refine stq ?_|refine r_i ?_|refine r_x ?_)
      refine s_st rfl hU.fr hR' fun s2 hU2 hR2 => ?_
      repeat' (first|refine r_a ?_|refine stp ?_|refine r_l ?_|refine r_c ?_|refine r_t fun _=>?_|refine r_f fun _=>?_|refine r_m (fun _=>?_) fun _=>?_|refine stq ?_|refine r_i ?_|refine r_x ?_)
      all_goals
        refine s_st rfl hU2.fr hR2 fun s3 hU3 hR3 => ?_
        repeat' (first|refine r_a ?_|refine stp ?_|refine r_l ?_|refine r_c ?_|refine r_t fun _=>?_|refine r_f fun _=>?_|refine r_m (fun _=>?_) fun _=>?_|refine stq ?_|refine r_i ?_|refine r_x ?_)
        refine s_ret rfl ?_
        have hrd : rd (pText most) [] (some b) = (x', some (b.drop n)) := by simp only [rd, e']
        rw [hrd] at hk
        refine hk _ (((hU.zero hU2).trans hU3 (fun _ _ h => ⟨h, h⟩)).out _) ?_
        refine RS.out (o := some _) ⟨⟨v2, _, hR3, ?_⟩, by rw [List.length_drop]; omega, fun c hc => h256 c (List.mem_of_mem_drop hc)⟩ hr _
        rw [Int.toNat_natCast] at hv2
        simp only [bv, List.map_drop] at hv2 ⊢; exact hv2
    · have hR' := hU.at hF hR (by simp)
      repeat' (first|refine r_a ?_|refine stp ?_|refine r_l ?_|refine r_c ?_|refine r_t fun _=>?_|refine r_f fun _=>?_|refine r_m (fun _=>?_) fun _=>?_|refine stq ?_|refine r_i ?_|refine r_x ?_)
      refine s_st rfl hU.fr hR' fun s2 hU2 hR2 => ?_
      repeat' (first|refine r_a ?_|refine stp ?_|refine r_l ?_|refine r_c ?_|refine r_t fun _=>?_|refine r_f fun _=>?_|refine r_m (fun _=>?_) fun _=>?_|refine stq ?_|refine r_i ?_|refine r_x ?_)
      refine s_ret rfl ?_
      have hp : (pText most) b = none := by
        cases hp : (pText most) b with
        | none => rfl
        | some q => rw [hp] at hn; cases hn
      have hrd : rd (pText most) [] (some b) = ([], none) := by simp only [rd, hp]
      rw [hrd] at hk
      exact hk _ ((hU.zero hU2).out _) (RS.out (o := none) ⟨b, e, he, v, _, hR2, hv⟩ hr _)

theorem c_read77 {s : St} {r : Nat} {o : Option (List Nat)} {k : AV → St → Prop} (hF : s.Fr) (h : RS s r o)
    (hk : ∀ s', Up s s' [r] → RS s' r (rd pFlag false o).2 → k ((fun x : Bool => AV.bool x) (rd pFlag false o).1) s') : Cal (EV kn) 77 [.ptr r 0, .fn 78 [] []] s k := by
  have hr := h.lt hF
  refine cal_fn rfl (f := 77) rfl rfl ?_
  cases o with
  | none =>
    obtain ⟨b, e, he, v, a, hR, hv⟩ := h
    repeat' (first|refine r_a ?_|refine stp ?_|refine r_l ?_|refine r_c ?_|refine r_t fun _=>?_|refine r_f fun _=>?_|refine r_m (fun _=>?_) fun _=>?_|refine stq ?_|refine r_i ?_|refine r_x ?_)
    refine s_ret rfl ?_
    exact hk _ (((Up.refl hF).mono (fun _ _ h => by cases h)).out _) (RS.out (o := none) ⟨b, e, he, v, a, hR, hv⟩ hr _)
  | some b =>
    obtain ⟨⟨v, a, hR, hv⟩, hb, h256⟩ := h
    repeat' (first|refine r_a ?_|refine stp ?_|refine r_l ?_|refine r_c ?_|refine r_t fun _=>?_|refine r_f fun _=>?_|refine r_m (fun _=>?_) fun _=>?_|refine stq ?_|refine r_i ?_|refine r_x ?_)
    refine s_kf rfl (c_pFlag hF hv fun s' hU => ⟨fun x n e => ?_, fun hn x n e he => ?_⟩)
    · have hR' := hU.at hF hR (by simp)
      obtain ⟨x', e', rfl⟩ : ∃ x', pFlag b = some (x', n) ∧ x = (fun x : Bool => AV.bool x) x' := by
        cases hp : pFlag b with
        | none => rw [hp] at e; cases e
        | some q => rw [hp] at e; cases e; exact ⟨_, rfl, rfl⟩
      have hn : n ≤ b.length := pFlag_le e'
      have hlen := bv_length b
      repeat' (first|refine r_a ?_|refine stp ?_|refine r_l ?_|refine r_c ?_|refine r_t fun _=>?_|refine r_f fun _=>?_|refine r_m (fun _=>?_) fun _=>?_|refine stq ?_|refine r_i ?_|refine r_x ?_)
      refine s_slfl rfl (by omega) fun v2 hv2 => ?_
      have hc2 := hv2.cel
      repeat' (first|refine r_a ?_|refine stp ?_|refine r_l ?_|refine r_c ?_|refine r_t fun _=>?_|refine r_f fun _=>?_|refine r_m (fun _=>?_) fun _=>?_|refine stq ?_|refine r_i ?_|refine r_x ?_)
      refine s_st rfl hU.fr hR' fun s2 hU2 hR2 => ?_
      repeat' (first|refine r_a ?_|refine stp ?_|refine r_l ?_|refine r_c ?_|refine r_t fun _=>?_|refine r_f fun _=>?_|refine r_m (fun _=>?_) fun _=>?_|refine stq ?_|refine r_i ?_|refine r_x ?_)
      all_goals
        refine s_st rfl hU2.fr hR2 fun s3 hU3 hR3 => ?_
        repeat' (first|refine r_a ?_|refine stp ?_|refine r_l ?_|refine r_c ?_|refine r_t fun _=>?_|refine r_f fun _=>?_|refine r_m (fun _=>?_) fun _=>?_|refine stq ?_|refine r_i ?_|refine r_x ?_)
        refine s_ret rfl ?_
        have hrd : rd pFlag false (some b) = (x', some (b.drop n)) := by simp only [rd, e']
        rw [hrd] at hk
        refine hk _ (((hU.zero hU2).trans hU3 (fun _ _ h => ⟨h, h⟩)).out _) ?_
        refine RS.out (o := some _) ⟨⟨v2, _, hR3, ?_⟩, by rw [List.length_drop]; omega, fun c hc => h256 c (List.mem_of_mem_drop hc)⟩ hr _
        rw [Int.toNat_natCast] at hv2
        simp only [bv, List.map_drop] at hv2 ⊢; exact hv2
    · have hR' := hU.at hF hR (by simp)
      repeat' (first|refine r_a ?_|refine stp ?_|refine r_l ?_|refine r_c ?_|refine r_t fun _=>?_|refine r_f fun _=>?_|refine r_m (fun _=>?_) fun _=>?_|refine stq ?_|refine r_i ?_|refine r_x ?_)
      refine s_st rfl hU.fr hR' fun s2 hU2 hR2 => ?_
      repeat' (first|refine r_a ?_|refine stp ?_|refine r_l ?_|refine r_c ?_|refine r_t fun _=>?_|refine r_f fun _=>?_|refine r_m (fun _=>?_) fun _=>?_|refine stq ?_|refine r_i ?_|refine r_x ?_)
      refine s_ret rfl ?_
      have hp : pFlag b = none := by
        cases hp : pFlag b with
        | none => rfl
        | some q => rw [hp] at hn; cases hn
      have hrd : rd pFlag false (some b) = (false, none) := by simp only [rd, hp]
      rw [hrd] at hk
      exact hk _ ((hU.zero hU2).out _) (RS.out (o := none) ⟨b, e, he, v, _, hR2, hv⟩ hr _)

theorem c_RNumber {s : St} {r most : Nat} {o : Option (List Nat)} {k : AV → St → Prop} (hF : s.Fr) (h : RS s r o)
    (hk : ∀ s', Up s s' [r] → RS s' r (rd (pNum most) 0 o).2 → k (.int .i64 ((rd (pNum most) 0 o).1 : Nat)) s') : Cal (EV kn) 37 [.ptr r 0, .int .i64 most] s k := by
  have hr := h.lt hF
  refine cal_fn rfl (f := 37) rfl rfl ?_
  repeat' (first|refine r_a ?_|refine stp ?_|refine r_l ?_|refine r_c ?_|refine r_t fun _=>?_|refine r_f fun _=>?_|refine r_m (fun _=>?_) fun _=>?_|refine stq ?_|refine r_i ?_|refine r_x ?_)
  refine s_bx rfl hF fun s2 p hU hl hle => ?_
  repeat' (first|refine r_a ?_|refine stp ?_|refine r_l ?_|refine r_c ?_|refine r_t fun _=>?_|refine r_f fun _=>?_|refine r_m (fun _=>?_) fun _=>?_|refine stq ?_|refine r_i ?_|refine r_x ?_)
  refine s_k rfl (c_read72 hU.fr (h.up hF hU (by simp)) hl fun s3 hU3 h3 => ?_)
  repeat' (first|refine r_a ?_|refine stp ?_|refine r_l ?_|refine r_c ?_|refine r_t fun _=>?_|refine r_f fun _=>?_|refine r_m (fun _=>?_) fun _=>?_|refine stq ?_|refine r_i ?_|refine r_x ?_)
  refine s_ret rfl ?_
  exact hk _ ((hU.zero hU3).out _) (h3.out hr _)

theorem c_RText {s : St} {r most : Nat} {o : Option (List Nat)} {k : AV → St → Prop} (hF : s.Fr) (h : RS s r o)
    (hk : ∀ s', Up s s' [r] → RS s' r (rd (pText most) [] o).2 → k (.str (rd (pText most) [] o).1) s') : Cal (EV kn) 38 [.ptr r 0, .int .i64 most] s k := by
  have hr := h.lt hF
  refine cal_fn rfl (f := 38) rfl rfl ?_
  repeat' (first|refine r_a ?_|refine stp ?_|refine r_l ?_|refine r_c ?_|refine r_t fun _=>?_|refine r_f fun _=>?_|refine r_m (fun _=>?_) fun _=>?_|refine stq ?_|refine r_i ?_|refine r_x ?_)
  refine s_bx rfl hF fun s2 p hU hl hle => ?_
  repeat' (first|refine r_a ?_|refine stp ?_|refine r_l ?_|refine r_c ?_|refine r_t fun _=>?_|refine r_f fun _=>?_|refine r_m (fun _=>?_) fun _=>?_|refine stq ?_|refine r_i ?_|refine r_x ?_)
  refine s_k rfl (c_read75 hU.fr (h.up hF hU (by simp)) hl fun s3 hU3 h3 => ?_)
  repeat' (first|refine r_a ?_|refine stp ?_|refine r_l ?_|refine r_c ?_|refine r_t fun _=>?_|refine r_f fun _=>?_|refine r_m (fun _=>?_) fun _=>?_|refine stq ?_|refine r_i ?_|refine r_x ?_)
  refine s_ret rfl ?_
  exact hk _ ((hU.zero hU3).out _) (h3.out hr _)

theorem c_RFlag {s : St} {r : Nat} {o : Option (List Nat)} {k : AV → St → Prop} (hF : s.Fr) (h : RS s r o)
    (hk : ∀ s', Up s s' [r] → RS s' r (rd pFlag false o).2 → k (.bool (rd pFlag false o).1) s') : Cal (EV kn) 39 [.ptr r 0] s k := by
  have hr := h.lt hF
  refine cal_fn rfl (f := 39) rfl rfl ?_
  repeat' (first|refine r_a ?_|refine stp ?_|refine r_l ?_|refine r_c ?_|refine r_t fun _=>?_|refine r_f fun _=>?_|refine r_m (fun _=>?_) fun _=>?_|refine stq ?_|refine r_i ?_|refine r_x ?_)
  refine s_k rfl (c_read77 hF h fun s3 hU3 h3 => ?_)
  repeat' (first|refine r_a ?_|refine stp ?_|refine r_l ?_|refine r_c ?_|refine r_t fun _=>?_|refine r_f fun _=>?_|refine r_m (fun _=>?_) fun _=>?_|refine stq ?_|refine r_i ?_|refine r_x ?_)
  refine s_ret rfl ?_
  exact hk _ (hU3.out _) (h3.out hr _)

/-- Close: no error if nothing is left. -/
theorem c_Close {s : St} {r : Nat} {o : Option (List Nat)} {k : AV → St → Prop} (hF : s.Fr) (h : RS s r o)
    (hk : ∀ s' e, Up s s' [] → (e = 0 ↔ o = some []) → k (.int .i64 e) s') : Cal (EV kn) 40 [.ptr r 0] s k := by
  refine cal_fn rfl (f := 40) rfl rfl ?_
  cases o with
  | none =>
    obtain ⟨b, e, he, v, a, hR, hv⟩ := h
    repeat' (first|refine r_a ?_|refine stp ?_|refine r_l ?_|refine r_c ?_|refine r_t fun _=>?_|refine r_f fun _=>?_|refine r_m (fun _=>?_) fun _=>?_|refine stq ?_|refine r_i ?_|refine r_x ?_)
    refine s_ret rfl ?_
    exact hk _ _ ((Up.refl hF).out _) (by simp [he])
  | some b =>
    obtain ⟨⟨v, a, hR, hv⟩, hb, h256⟩ := h
    have hlen := bv_length b
    repeat' (first|refine r_a ?_|refine stp ?_|refine r_l ?_|refine r_c ?_|refine r_t fun _=>?_|refine r_f fun _=>?_|refine r_m (fun _=>?_) fun _=>?_|refine stq ?_|refine r_i ?_|refine r_x ?_)
    · refine s_ret rfl ?_
      exact hk _ _ ((Up.refl hF).out _) (by simp; rintro rfl; simp only [List.length_nil] at hlen; omega)
    · refine s_ret rfl ?_
      exact hk _ _ ((Up.refl hF).out _) (by simp; exact List.eq_nil_of_length_eq_zero (by omega))
end Go.Am

/- The shell's state: Decode. The document's check of a state. -/
import Derived.Test.YtjacmplknlploaaGreatDoorW16
set_option linter.all false
namespace Go.Am
open T
attribute [local irreducible] Wp WpO Cal Rt Then Blocked Slc Lq Jq upd' φ0 lst

variable {kn : List AV → St → Option (AV × St)}

theorem sumL_rdI (m n : Nat) (o : Option (List Nat)) : sumL (rdI (rd (pText m) []) n o).1 ≤ n * m := by
  induction n with
  | zero => simp [rdI, sumL]
  | succ n ih =>
    simp only [rdI, sumL, List.map_append, List.sum_append, List.map_cons, List.map_nil, List.sum_cons, List.sum_nil] at ih ⊢
    have := rdT_le m (rdI (rd (pText m) []) n o).2
    rw [Nat.succ_mul]; omega

set_option maxHeartbeats 8000000 in
theorem c_Decode {s : St} {bs : List Nat} {k : AV → St → Prop} (hF : s.Fr) (hb : bs.length ≤ 20000000) (h256 : B256 bs)
    (hk1 : ∀ s' a b c d, Up s s' [] → (dec 16 256 16384 1024 (some bs)).2 = some [] → (dec 16 256 16384 1024 (some bs)).1.check = 0 → Ls a 2 ((dec 16 256 16384 1024 (some bs)).1.vars.map pv) → Ls b 1 ((dec 16 256 16384 1024 (some bs)).1.lines.map AV.str) →
      Ls c 2 ((dec 16 256 16384 1024 (some bs)).1.parts.map pp) → Ls d 1 ((dec 16 256 16384 1024 (some bs)).1.kids.map pk) → k (.tup [.agg [a, .int .i64 (dec 16 256 16384 1024 (some bs)).1.status, b, c, .bool (dec 16 256 16384 1024 (some bs)).1.bg, d], .int .i64 0]) s')
    (hk0 : ∀ s', Up s s' [] → ¬ ((dec 16 256 16384 1024 (some bs)).2 = some [] ∧ (dec 16 256 16384 1024 (some bs)).1.check = 0) → k (.tup [.agg [.nsl, .int .i64 0, .nsl, .nsl, .bool false, .nsl], .int .i64 3]) s') :
    Cal (EV kn) 14 [.str bs] s k := by
  refine cal_fn rfl (f := 14) rfl rfl ?_
  repeat' (first|refine r_a ?_|refine stp ?_|refine r_l ?_|refine r_c ?_|refine r_t fun _=>?_|refine r_f fun _=>?_|refine r_m (fun _=>?_) fun _=>?_|refine stq ?_|refine r_i ?_|refine r_x ?_)
  refine s_al hF fun s1 z hU1 hz hzl => ?_
  repeat' (first|refine r_a ?_|refine stp ?_|refine r_l ?_|refine r_c ?_|refine r_t fun _=>?_|refine r_f fun _=>?_|refine r_m (fun _=>?_) fun _=>?_|refine stq ?_|refine r_i ?_|refine r_x ?_)
  refine s_k rfl ?_
  refine c_NewReader (bs := bs) hU1.fr ⟨.inr ⟨0, rfl⟩⟩ hb fun r s2 hU2 hR hrl => ?_
  have h2 : DS s s2 r (some bs) [] 39 2 .nsl [] := ⟨hU1.then0 hU2, ⟨hR, hb, h256⟩, Nat.le_trans hU1.le hrl, by simp, by simp, [], Slc.nil, by simp⟩
  have h2 : DS s s2 r (some bs) [(z, 27, [.nsl, .int .i64 0, .nsl, .nsl, .bool false, .nsl])] 39 2 .nsl [] :=
    ⟨h2.up, h2.rs, h2.rn, fun e he => by rw [List.mem_singleton] at he; subst he; exact ⟨hU2.at0 hU1.fr hz, by simp, hzl⟩, by simp, h2.sl⟩
  clear hR hz hU2
  repeat' (first|refine r_a ?_|refine stp ?_|refine r_l ?_|refine r_c ?_|refine r_t fun _=>?_|refine r_f fun _=>?_|refine r_m (fun _=>?_) fun _=>?_|refine stq ?_|refine r_i ?_|refine r_x ?_)
  refine s_al h2.fr fun s3 q hU3 hq hql => ?_
  have h3 := h2.al hU3 hq hql (by decide)
  clear hq h2 hU3 hql
  repeat' (first|refine r_a ?_|refine stp ?_|refine r_l ?_|refine r_c ?_|refine r_t fun _=>?_|refine r_f fun _=>?_|refine r_m (fun _=>?_) fun _=>?_|refine stq ?_|refine r_i ?_|refine r_x ?_)
  -- the variables
  refine s_k rfl (h3.num fun s4 h4 => ?_)
  have l1 := rdN_le 32 (some bs)
  obtain ⟨n1, o1, e1⟩ : ∃ n1 o1, rd (pNum 32) 0 (some bs) = (n1, o1) := ⟨_, _, rfl⟩
  simp only [e1] at h4 l1 ⊢
  clear h3
  repeat' (first|refine r_a ?_|refine stp ?_|refine r_l ?_|refine r_c ?_|refine r_t fun _=>?_|refine r_f fun _=>?_|refine r_m (fun _=>?_) fun _=>?_|refine stq ?_|refine r_i ?_|refine r_x ?_)
  refine s_lpj (fun (i : Nat) φ s5 => ∃ v, Cel v 1 [v] ∧ Ls v 2 ((rdI (rdV 16 256) i o1).1.map pv) ∧ DS s s5 r (rdI (rdV 16 256) i o1).2 [(q, 27, [v, .int .i64 0, .nsl, .nsl, .bool false, .nsl]), (z, 27, [.nsl, .int .i64 0, .nsl, .nsl, .bool false, .nsl])] 39 2 v ((rdI (rdV 16 256) i o1).1.map pv)
      ∧ At φ 2 (.ptr z 0) true ∧ At φ 4 (.ptr r 0) true ∧ At φ 5 (.ptr q 0) true ∧ At φ 12 (.int .i64 n1) true ∧ At φ 13 (.int .i64 i) true ∧ i ≤ n1) (fun i => n1 - i)
    (fun φ s5 => ∃ v, Ls v 2 ((rdI (rdV 16 256) n1 o1).1.map pv) ∧ DS s s5 r (rdI (rdV 16 256) n1 o1).2 [(q, 27, [v, .int .i64 0, .nsl, .nsl, .bool false, .nsl]), (z, 27, [.nsl, .int .i64 0, .nsl, .nsl, .bool false, .nsl])] 39 2 v ((rdI (rdV 16 256) n1 o1).1.map pv)
      ∧ At φ 2 (.ptr z 0) true ∧ At φ 4 (.ptr r 0) true ∧ At φ 5 (.ptr q 0) true) 0 ?_ ?_ ?_
  · exact ⟨.nsl, inferInstance, Ls.nil, h4, at_of rfl, at_of rfl, at_of rfl, at_of rfl, at_of rfl, by omega⟩
  · rintro i φ s5 ⟨v, hcel, hls, h5, g2, g4, g5, g12, g13, hi⟩
    by_cases hlt : i < n1
    · have hlen := rdI_len (rdV 16 256) i o1
      have hstep : rdI (rdV 16 256) (i + 1) o1 = ((rdI (rdV 16 256) i o1).1 ++ [(rdV 16 256 (rdI (rdV 16 256) i o1).2).1], (rdV 16 256 (rdI (rdV 16 256) i o1).2).2) := rfl
      generalize hR1 : rdI (rdV 16 256) i o1 = R at hls h5 hlen hstep
      obtain ⟨l, oi⟩ := R
      simp only at hls h5 hlen hstep
      simp only [rdV] at hstep
      repeat' (first|refine r_a ?_|refine stp ?_|refine r_l ?_|refine r_c ?_|refine r_t fun _=>?_|refine r_f fun _=>?_|refine r_m (fun _=>?_) fun _=>?_|refine stq ?_|refine r_i ?_|refine r_x ?_)
      refine s_al h5.fr fun s6 p hU6 hp hpl => ?_
      have h6 := h5.al hU6 hp hpl (by decide)
      clear hp
      repeat' (first|refine r_a ?_|refine stp ?_|refine r_l ?_|refine r_c ?_|refine r_t fun _=>?_|refine r_f fun _=>?_|refine r_m (fun _=>?_) fun _=>?_|refine stq ?_|refine r_i ?_|refine r_x ?_)
      refine s_k rfl (h6.text fun s7 h7 => ?_)
      obtain ⟨tx, o2, e2⟩ : ∃ tx o2, rd (pText 16) [] oi = (tx, o2) := ⟨_, _, rfl⟩
      simp only [e2] at h7 hstep ⊢
      have hp7 := h7.at (.head _)
      repeat' (first|refine r_a ?_|refine stp ?_|refine r_l ?_|refine r_c ?_|refine r_t fun _=>?_|refine r_f fun _=>?_|refine r_m (fun _=>?_) fun _=>?_|refine stq ?_|refine r_i ?_|refine r_x ?_)
      refine s_st rfl h7.fr hp7 fun s8 hU8 hp8 => ?_
      have h8 := h7.set0 hU8 hp8 (by decide)
      clear hp7 hp8
      repeat' (first|refine r_a ?_|refine stp ?_|refine r_l ?_|refine r_c ?_|refine r_t fun _=>?_|refine r_f fun _=>?_|refine r_m (fun _=>?_) fun _=>?_|refine stq ?_|refine r_i ?_|refine r_x ?_)
      refine s_k rfl (h8.text fun s9 h9 => ?_)
      obtain ⟨ty, o3, e3⟩ : ∃ ty o3, rd (pText 256) [] o2 = (ty, o3) := ⟨_, _, rfl⟩
      simp only [e3] at h9 hstep ⊢
      have hp9 := h9.at (.head _)
      repeat' (first|refine r_a ?_|refine stp ?_|refine r_l ?_|refine r_c ?_|refine r_t fun _=>?_|refine r_f fun _=>?_|refine r_m (fun _=>?_) fun _=>?_|refine stq ?_|refine r_i ?_|refine r_x ?_)
      refine s_st rfl h9.fr hp9 fun s10 hU10 hp10 => ?_
      have h10 := h9.set0 hU10 hp10 (by decide)
      clear hp9
      have hq10 := h10.at (.tail _ (.head _))
      repeat' (first|refine r_a ?_|refine stp ?_|refine r_l ?_|refine r_c ?_|refine r_t fun _=>?_|refine r_f fun _=>?_|refine r_m (fun _=>?_) fun _=>?_|refine stq ?_|refine r_i ?_|refine r_x ?_)
      refine d_mk1 rfl rfl h10 fun s11 t h11 => ?_
      clear hp10 hq10
      refine d_app rfl h11 (ys := [pv (tx, ty)]) rfl ?_ rfl fun v' s12 h12 hcel' hls' => ?_
      · simp only [List.length_map, hlen, List.length_cons, List.length_nil, maxL]; omega
      have hq12 := h12.at (.tail _ (.head _))
      repeat' (first|refine r_a ?_|refine stp ?_|refine r_l ?_|refine r_c ?_|refine r_t fun _=>?_|refine r_f fun _=>?_|refine r_m (fun _=>?_) fun _=>?_|refine stq ?_|refine r_i ?_|refine r_x ?_)
      refine s_st rfl h12.fr hq12 fun s13 hU13 hq13 => ?_
      have h13 := (h12.set1 hU13 hq13 (by decide)).tail
      clear hq12 hq13
      repeat' (first|refine r_a ?_|refine stp ?_|refine r_l ?_|refine r_c ?_|refine r_t fun _=>?_|refine r_f fun _=>?_|refine r_m (fun _=>?_) fun _=>?_|refine stq ?_|refine r_i ?_|refine r_x ?_)
      refine ⟨i + 1, by omega, v', hcel', ?_, ?_, at_of rfl, at_of rfl, at_of rfl, at_of rfl, at_of rfl, by omega⟩
      · rw [hstep]; simp only [List.map_append, List.map_cons, List.map_nil]; exact hls'
      · rw [hstep]; simp only [List.map_append, List.map_cons, List.map_nil]; exact h13
    · have : i = n1 := by omega
      subst this
      repeat' (first|refine r_a ?_|refine stp ?_|refine r_l ?_|refine r_c ?_|refine r_t fun _=>?_|refine r_f fun _=>?_|refine r_m (fun _=>?_) fun _=>?_|refine stq ?_|refine r_i ?_|refine r_x ?_)
      exact ⟨v, hls, h5, at_of rfl, at_of rfl, at_of rfl⟩
  rintro φ s5 ⟨va, ha, h5, g2, g4, g5⟩
  obtain ⟨xv, o2, e2⟩ : ∃ xv o2, rdI (rdV 16 256) n1 o1 = (xv, o2) := ⟨_, _, rfl⟩
  simp only [e2] at h5 ha
  have hcela := ha.cel
  clear h4
  replace h5 := h5.nil 9 1
  repeat' (first|refine r_a ?_|refine stp ?_|refine r_l ?_|refine r_c ?_|refine r_t fun _=>?_|refine r_f fun _=>?_|refine r_m (fun _=>?_) fun _=>?_|refine stq ?_|refine r_i ?_|refine r_x ?_)
  -- the status
  refine s_k rfl (h5.num fun s6 h6 => ?_)
  have l3 := rdN_le 999 o2
  obtain ⟨st, o3, e3⟩ : ∃ st o3, rd (pNum 999) 0 o2 = (st, o3) := ⟨_, _, rfl⟩
  simp only [e3] at h6 l3 ⊢
  clear h5
  have hq6 := h6.at (.head _)
  repeat' (first|refine r_a ?_|refine stp ?_|refine r_l ?_|refine r_c ?_|refine r_t fun _=>?_|refine r_f fun _=>?_|refine r_m (fun _=>?_) fun _=>?_|refine stq ?_|refine r_i ?_|refine r_x ?_)
  refine s_st rfl h6.fr hq6 fun s7 hU7 hq7 => ?_
  have h7 := h6.set0 hU7 hq7 (by decide)
  clear hq6 hq7 h6
  repeat' (first|refine r_a ?_|refine stp ?_|refine r_l ?_|refine r_c ?_|refine r_t fun _=>?_|refine r_f fun _=>?_|refine r_m (fun _=>?_) fun _=>?_|refine stq ?_|refine r_i ?_|refine r_x ?_)
  -- the lines
  refine s_k rfl (h7.num fun s8 h8 => ?_)
  have l4 := rdN_le 1024 o3
  obtain ⟨n2, o4, e4⟩ : ∃ n2 o4, rd (pNum 1024) 0 o3 = (n2, o4) := ⟨_, _, rfl⟩
  simp only [e4] at h8 l4 ⊢
  clear h7
  repeat' (first|refine r_a ?_|refine stp ?_|refine r_l ?_|refine r_c ?_|refine r_t fun _=>?_|refine r_f fun _=>?_|refine r_m (fun _=>?_) fun _=>?_|refine stq ?_|refine r_i ?_|refine r_x ?_)
  refine s_lpj (fun (i : Nat) φ s9 => ∃ v, Cel v 1 [v] ∧ Ls v 1 ((rdI (rd (pText 16384) []) i o4).1.map AV.str) ∧ DS s s9 r (rdI (rd (pText 16384) []) i o4).2 [(q, 27, [va, .int .i64 st, v, .nsl, .bool false, .nsl]), (z, 27, [.nsl, .int .i64 0, .nsl, .nsl, .bool false, .nsl])] 9 1 v ((rdI (rd (pText 16384) []) i o4).1.map AV.str)
      ∧ At φ 2 (.ptr z 0) true ∧ At φ 4 (.ptr r 0) true ∧ At φ 5 (.ptr q 0) true ∧ At φ 32 (.int .i64 n2) true ∧ At φ 33 (.int .i64 i) true ∧ i ≤ n2) (fun i => n2 - i)
    (fun φ s9 => ∃ v, Ls v 1 ((rdI (rd (pText 16384) []) n2 o4).1.map AV.str) ∧ DS s s9 r (rdI (rd (pText 16384) []) n2 o4).2 [(q, 27, [va, .int .i64 st, v, .nsl, .bool false, .nsl]), (z, 27, [.nsl, .int .i64 0, .nsl, .nsl, .bool false, .nsl])] 9 1 v ((rdI (rd (pText 16384) []) n2 o4).1.map AV.str)
      ∧ At φ 2 (.ptr z 0) true ∧ At φ 4 (.ptr r 0) true ∧ At φ 5 (.ptr q 0) true) 0 ?_ ?_ ?_
  · exact ⟨.nsl, inferInstance, Ls.nil, h8, at_of rfl, at_of rfl, at_of rfl, at_of rfl, at_of rfl, by omega⟩
  · rintro i φ s9 ⟨v, hcel, hls, h9, g2, g4, g5, g32, g33, hi⟩
    by_cases hlt : i < n2
    · have hlen := rdI_len (rd (pText 16384) []) i o4
      have hstep : rdI (rd (pText 16384) []) (i + 1) o4 = ((rdI (rd (pText 16384) []) i o4).1 ++ [(rd (pText 16384) [] (rdI (rd (pText 16384) []) i o4).2).1], (rd (pText 16384) [] (rdI (rd (pText 16384) []) i o4).2).2) := rfl
      generalize hR1 : rdI (rd (pText 16384) []) i o4 = R at hls h9 hlen hstep
      obtain ⟨l, oi⟩ := R
      simp only at hls h9 hlen hstep
      have hq9 := h9.at (.head _)
      repeat' (first|refine r_a ?_|refine stp ?_|refine r_l ?_|refine r_c ?_|refine r_t fun _=>?_|refine r_f fun _=>?_|refine r_m (fun _=>?_) fun _=>?_|refine stq ?_|refine r_i ?_|refine r_x ?_)
      refine s_k rfl (h9.text fun s10 h10 => ?_)
      obtain ⟨tx, o5, e5⟩ : ∃ tx o5, rd (pText 16384) [] oi = (tx, o5) := ⟨_, _, rfl⟩
      simp only [e5] at h10 hstep ⊢
      replace hq9 := h10.at (.head _)
      repeat' (first|refine r_a ?_|refine stp ?_|refine r_l ?_|refine r_c ?_|refine r_t fun _=>?_|refine r_f fun _=>?_|refine r_m (fun _=>?_) fun _=>?_|refine stq ?_|refine r_i ?_|refine r_x ?_)
      refine d_mk1 rfl rfl h10 fun s11 t h11 => ?_
      replace hq9 := h11.at (.head _)
      repeat' (first|refine r_a ?_|refine stp ?_|refine r_l ?_|refine r_c ?_|refine r_t fun _=>?_|refine r_f fun _=>?_|refine r_m (fun _=>?_) fun _=>?_|refine stq ?_|refine r_i ?_|refine r_x ?_)
      refine d_app rfl h11 (ys := [AV.str tx]) rfl ?_ rfl fun v' s12 h12 hcel' hls' => ?_
      · simp only [List.length_map, hlen, List.length_cons, List.length_nil, maxL]; omega
      replace hq9 := h12.at (.head _)
      repeat' (first|refine r_a ?_|refine stp ?_|refine r_l ?_|refine r_c ?_|refine r_t fun _=>?_|refine r_f fun _=>?_|refine r_m (fun _=>?_) fun _=>?_|refine stq ?_|refine r_i ?_|refine r_x ?_)
      refine s_st rfl h12.fr hq9 fun s13 hU13 hq13 => ?_
      have h13 := h12.set0 hU13 hq13 (by decide)
      clear hq9 hq13
      repeat' (first|refine r_a ?_|refine stp ?_|refine r_l ?_|refine r_c ?_|refine r_t fun _=>?_|refine r_f fun _=>?_|refine r_m (fun _=>?_) fun _=>?_|refine stq ?_|refine r_i ?_|refine r_x ?_)
      refine ⟨i + 1, by omega, v', hcel', ?_, ?_, at_of rfl, at_of rfl, at_of rfl, at_of rfl, at_of rfl, by omega⟩
      · rw [hstep]; simp only [List.map_append, List.map_cons, List.map_nil]; exact hls'
      · rw [hstep]; simp only [List.map_append, List.map_cons, List.map_nil]; exact h13
    · have : i = n2 := by omega
      subst this
      repeat' (first|refine r_a ?_|refine stp ?_|refine r_l ?_|refine r_c ?_|refine r_t fun _=>?_|refine r_f fun _=>?_|refine r_m (fun _=>?_) fun _=>?_|refine stq ?_|refine r_i ?_|refine r_x ?_)
      exact ⟨v, hls, h9, at_of rfl, at_of rfl, at_of rfl⟩
  rintro φ s9 ⟨vb, hbb, h9, g2, g4, g5⟩
  obtain ⟨xl, o5, e5⟩ : ∃ xl o5, rdI (rd (pText 16384) []) n2 o4 = (xl, o5) := ⟨_, _, rfl⟩
  simp only [e5] at h9 hbb
  have hcelb := hbb.cel
  clear h8
  replace h9 := h9.nil 47 2
  repeat' (first|refine r_a ?_|refine stp ?_|refine r_l ?_|refine r_c ?_|refine r_t fun _=>?_|refine r_f fun _=>?_|refine r_m (fun _=>?_) fun _=>?_|refine stq ?_|refine r_i ?_|refine r_x ?_)
  -- the parts
  refine s_k rfl (h9.num fun s10 h10 => ?_)
  have l6 := rdN_le 16 o5
  obtain ⟨n3, o6, e6⟩ : ∃ n3 o6, rd (pNum 16) 0 o5 = (n3, o6) := ⟨_, _, rfl⟩
  simp only [e6] at h10 l6 ⊢
  clear h9
  repeat' (first|refine r_a ?_|refine stp ?_|refine r_l ?_|refine r_c ?_|refine r_t fun _=>?_|refine r_f fun _=>?_|refine r_m (fun _=>?_) fun _=>?_|refine stq ?_|refine r_i ?_|refine r_x ?_)
  refine s_lpj (fun (i : Nat) φ s5 => ∃ v, Cel v 1 [v] ∧ Ls v 2 ((rdI (rdP 1024) i o6).1.map pp) ∧ DS s s5 r (rdI (rdP 1024) i o6).2 [(q, 27, [va, .int .i64 st, vb, v, .bool false, .nsl]), (z, 27, [.nsl, .int .i64 0, .nsl, .nsl, .bool false, .nsl])] 47 2 v ((rdI (rdP 1024) i o6).1.map pp)
      ∧ At φ 2 (.ptr z 0) true ∧ At φ 4 (.ptr r 0) true ∧ At φ 5 (.ptr q 0) true ∧ At φ 44 (.int .i64 n3) true ∧ At φ 45 (.int .i64 i) true ∧ i ≤ n3) (fun i => n3 - i)
    (fun φ s5 => ∃ v, Ls v 2 ((rdI (rdP 1024) n3 o6).1.map pp) ∧ DS s s5 r (rdI (rdP 1024) n3 o6).2 [(q, 27, [va, .int .i64 st, vb, v, .bool false, .nsl]), (z, 27, [.nsl, .int .i64 0, .nsl, .nsl, .bool false, .nsl])] 47 2 v ((rdI (rdP 1024) n3 o6).1.map pp)
      ∧ At φ 2 (.ptr z 0) true ∧ At φ 4 (.ptr r 0) true ∧ At φ 5 (.ptr q 0) true) 0 ?_ ?_ ?_
  · exact ⟨.nsl, inferInstance, Ls.nil, h10, at_of rfl, at_of rfl, at_of rfl, at_of rfl, at_of rfl, by omega⟩
  · rintro i φ s5 ⟨v, hcel, hls, h5, g2, g4, g5, g12, g13, hi⟩
    by_cases hlt : i < n3
    · have hlen := rdI_len (rdP 1024) i o6
      have hstep : rdI (rdP 1024) (i + 1) o6 = ((rdI (rdP 1024) i o6).1 ++ [(rdP 1024 (rdI (rdP 1024) i o6).2).1], (rdP 1024 (rdI (rdP 1024) i o6).2).2) := rfl
      generalize hR1 : rdI (rdP 1024) i o6 = R at hls h5 hlen hstep
      obtain ⟨l, oi⟩ := R
      simp only at hls h5 hlen hstep
      simp only [rdP] at hstep
      repeat' (first|refine r_a ?_|refine stp ?_|refine r_l ?_|refine r_c ?_|refine r_t fun _=>?_|refine r_f fun _=>?_|refine r_m (fun _=>?_) fun _=>?_|refine stq ?_|refine r_i ?_|refine r_x ?_)
      refine s_al h5.fr fun s6 p hU6 hp hpl => ?_
      have h6 := h5.al hU6 hp hpl (by decide)
      clear hp
      repeat' (first|refine r_a ?_|refine stp ?_|refine r_l ?_|refine r_c ?_|refine r_t fun _=>?_|refine r_f fun _=>?_|refine r_m (fun _=>?_) fun _=>?_|refine stq ?_|refine r_i ?_|refine r_x ?_)
      refine s_k rfl (h6.num fun s7 h7 => ?_)
      obtain ⟨tx, o7, e7⟩ : ∃ tx o7, rd (pNum 2) 0 oi = (tx, o7) := ⟨_, _, rfl⟩
      simp only [e7] at h7 hstep ⊢
      have hp7 := h7.at (.head _)
      repeat' (first|refine r_a ?_|refine stp ?_|refine r_l ?_|refine r_c ?_|refine r_t fun _=>?_|refine r_f fun _=>?_|refine r_m (fun _=>?_) fun _=>?_|refine stq ?_|refine r_i ?_|refine r_x ?_)
      refine s_st rfl h7.fr hp7 fun s8 hU8 hp8 => ?_
      have h8 := h7.set0 hU8 hp8 (by decide)
      clear hp7 hp8
      repeat' (first|refine r_a ?_|refine stp ?_|refine r_l ?_|refine r_c ?_|refine r_t fun _=>?_|refine r_f fun _=>?_|refine r_m (fun _=>?_) fun _=>?_|refine stq ?_|refine r_i ?_|refine r_x ?_)
      refine s_k rfl (h8.text fun s9 h9 => ?_)
      obtain ⟨ty, o8, e8⟩ : ∃ ty o8, rd (pText 1024) [] o7 = (ty, o8) := ⟨_, _, rfl⟩
      simp only [e8] at h9 hstep ⊢
      have hp9 := h9.at (.head _)
      repeat' (first|refine r_a ?_|refine stp ?_|refine r_l ?_|refine r_c ?_|refine r_t fun _=>?_|refine r_f fun _=>?_|refine r_m (fun _=>?_) fun _=>?_|refine stq ?_|refine r_i ?_|refine r_x ?_)
      refine s_st rfl h9.fr hp9 fun s10 hU10 hp10 => ?_
      have h10 := h9.set0 hU10 hp10 (by decide)
      clear hp9
      have hq10 := h10.at (.tail _ (.head _))
      repeat' (first|refine r_a ?_|refine stp ?_|refine r_l ?_|refine r_c ?_|refine r_t fun _=>?_|refine r_f fun _=>?_|refine r_m (fun _=>?_) fun _=>?_|refine stq ?_|refine r_i ?_|refine r_x ?_)
      refine d_mk1 rfl rfl h10 fun s11 t h11 => ?_
      clear hp10 hq10
      refine d_app rfl h11 (ys := [pp ((tx : Int), ty)]) rfl ?_ rfl fun v' s12 h12 hcel' hls' => ?_
      · simp only [List.length_map, hlen, List.length_cons, List.length_nil, maxL]; omega
      have hq12 := h12.at (.tail _ (.head _))
      repeat' (first|refine r_a ?_|refine stp ?_|refine r_l ?_|refine r_c ?_|refine r_t fun _=>?_|refine r_f fun _=>?_|refine r_m (fun _=>?_) fun _=>?_|refine stq ?_|refine r_i ?_|refine r_x ?_)
      refine s_st rfl h12.fr hq12 fun s13 hU13 hq13 => ?_
      have h13 := (h12.set1 hU13 hq13 (by decide)).tail
      clear hq12 hq13
      repeat' (first|refine r_a ?_|refine stp ?_|refine r_l ?_|refine r_c ?_|refine r_t fun _=>?_|refine r_f fun _=>?_|refine r_m (fun _=>?_) fun _=>?_|refine stq ?_|refine r_i ?_|refine r_x ?_)
      refine ⟨i + 1, by omega, v', hcel', ?_, ?_, at_of rfl, at_of rfl, at_of rfl, at_of rfl, at_of rfl, by omega⟩
      · rw [hstep]; simp only [List.map_append, List.map_cons, List.map_nil]; exact hls'
      · rw [hstep]; simp only [List.map_append, List.map_cons, List.map_nil]; exact h13
    · have : i = n3 := by omega
      subst this
      repeat' (first|refine r_a ?_|refine stp ?_|refine r_l ?_|refine r_c ?_|refine r_t fun _=>?_|refine r_f fun _=>?_|refine r_m (fun _=>?_) fun _=>?_|refine stq ?_|refine r_i ?_|refine r_x ?_)
      exact ⟨v, hls, h5, at_of rfl, at_of rfl, at_of rfl⟩
  rintro φ s11 ⟨vc, hcc, h11, g2, g4, g5⟩
  obtain ⟨xp, o7, e7⟩ : ∃ xp o7, rdI (rdP 1024) n3 o6 = (xp, o7) := ⟨_, _, rfl⟩
  simp only [e7] at h11 hcc
  have hcelc := hcc.cel
  clear h10
  replace h11 := h11.nil 3 1
  repeat' (first|refine r_a ?_|refine stp ?_|refine r_l ?_|refine r_c ?_|refine r_t fun _=>?_|refine r_f fun _=>?_|refine r_m (fun _=>?_) fun _=>?_|refine stq ?_|refine r_i ?_|refine r_x ?_)
  -- the flag
  refine s_k rfl (h11.flag fun s12 h12 => ?_)
  obtain ⟨fl, o8, e8⟩ : ∃ fl o8, rd pFlag false o7 = (fl, o8) := ⟨_, _, rfl⟩
  simp only [e8] at h12 ⊢
  clear h11
  have hq12 := h12.at (.head _)
  repeat' (first|refine r_a ?_|refine stp ?_|refine r_l ?_|refine r_c ?_|refine r_t fun _=>?_|refine r_f fun _=>?_|refine r_m (fun _=>?_) fun _=>?_|refine stq ?_|refine r_i ?_|refine r_x ?_)
  refine s_st rfl h12.fr hq12 fun s13 hU13 hq13 => ?_
  have h13 := h12.set0 hU13 hq13 (by decide)
  clear hq12 hq13 h12
  repeat' (first|refine r_a ?_|refine stp ?_|refine r_l ?_|refine r_c ?_|refine r_t fun _=>?_|refine r_f fun _=>?_|refine r_m (fun _=>?_) fun _=>?_|refine stq ?_|refine r_i ?_|refine r_x ?_)
  -- the children
  refine s_k rfl (h13.num fun s14 h14 => ?_)
  have l9 := rdN_le 8 o8
  obtain ⟨n4, o9, e9⟩ : ∃ n4 o9, rd (pNum 8) 0 o8 = (n4, o9) := ⟨_, _, rfl⟩
  simp only [e9] at h14 l9 ⊢
  clear h13
  repeat' (first|refine r_a ?_|refine stp ?_|refine r_l ?_|refine r_c ?_|refine r_t fun _=>?_|refine r_f fun _=>?_|refine r_m (fun _=>?_) fun _=>?_|refine stq ?_|refine r_i ?_|refine r_x ?_)
  refine s_lpj (fun (i : Nat) φ s9 => ∃ v, Cel v 1 [v] ∧ Ls v 1 ((rdI rdK i o9).1.map pk) ∧ DS s s9 r (rdI rdK i o9).2 [(q, 27, [va, .int .i64 st, vb, vc, .bool fl, v]), (z, 27, [.nsl, .int .i64 0, .nsl, .nsl, .bool false, .nsl])] 3 1 v ((rdI rdK i o9).1.map pk)
      ∧ At φ 2 (.ptr z 0) true ∧ At φ 4 (.ptr r 0) true ∧ At φ 5 (.ptr q 0) true ∧ At φ 64 (.int .i64 n4) true ∧ At φ 65 (.int .i64 i) true ∧ i ≤ n4) (fun i => n4 - i)
    (fun φ s9 => ∃ v, Ls v 1 ((rdI rdK n4 o9).1.map pk) ∧ DS s s9 r (rdI rdK n4 o9).2 [(q, 27, [va, .int .i64 st, vb, vc, .bool fl, v]), (z, 27, [.nsl, .int .i64 0, .nsl, .nsl, .bool false, .nsl])] 3 1 v ((rdI rdK n4 o9).1.map pk)
      ∧ At φ 2 (.ptr z 0) true ∧ At φ 4 (.ptr r 0) true ∧ At φ 5 (.ptr q 0) true) 0 ?_ ?_ ?_
  · exact ⟨.nsl, inferInstance, Ls.nil, h14, at_of rfl, at_of rfl, at_of rfl, at_of rfl, at_of rfl, by omega⟩
  · rintro i φ s9 ⟨v, hcel, hls, h9, g2, g4, g5, g32, g33, hi⟩
    by_cases hlt : i < n4
    · have hlen := rdI_len rdK i o9
      have hstep : rdI rdK (i + 1) o9 = ((rdI rdK i o9).1 ++ [(rdK (rdI rdK i o9).2).1], (rdK (rdI rdK i o9).2).2) := rfl
      generalize hR1 : rdI rdK i o9 = R at hls h9 hlen hstep
      obtain ⟨l, oi⟩ := R
      simp only at hls h9 hlen hstep
      simp only [rdK] at hstep
      have hq9 := h9.at (.head _)
      repeat' (first|refine r_a ?_|refine stp ?_|refine r_l ?_|refine r_c ?_|refine r_t fun _=>?_|refine r_f fun _=>?_|refine r_m (fun _=>?_) fun _=>?_|refine stq ?_|refine r_i ?_|refine r_x ?_)
      refine s_k rfl (h9.num fun s10 h10 => ?_)
      obtain ⟨tx, o5, e5⟩ : ∃ tx o5, rd (pNum 999999) 0 oi = (tx, o5) := ⟨_, _, rfl⟩
      simp only [e5] at h10 hstep ⊢
      replace hq9 := h10.at (.head _)
      repeat' (first|refine r_a ?_|refine stp ?_|refine r_l ?_|refine r_c ?_|refine r_t fun _=>?_|refine r_f fun _=>?_|refine r_m (fun _=>?_) fun _=>?_|refine stq ?_|refine r_i ?_|refine r_x ?_)
      refine d_mk1 rfl rfl h10 fun s11 t h11 => ?_
      replace hq9 := h11.at (.head _)
      repeat' (first|refine r_a ?_|refine stp ?_|refine r_l ?_|refine r_c ?_|refine r_t fun _=>?_|refine r_f fun _=>?_|refine r_m (fun _=>?_) fun _=>?_|refine stq ?_|refine r_i ?_|refine r_x ?_)
      refine d_app rfl h11 (ys := [pk (tx : Int)]) rfl ?_ rfl fun v' s12 h12 hcel' hls' => ?_
      · simp only [List.length_map, hlen, List.length_cons, List.length_nil, maxL]; omega
      replace hq9 := h12.at (.head _)
      repeat' (first|refine r_a ?_|refine stp ?_|refine r_l ?_|refine r_c ?_|refine r_t fun _=>?_|refine r_f fun _=>?_|refine r_m (fun _=>?_) fun _=>?_|refine stq ?_|refine r_i ?_|refine r_x ?_)
      refine s_st rfl h12.fr hq9 fun s13 hU13 hq13 => ?_
      have h13 := h12.set0 hU13 hq13 (by decide)
      clear hq9 hq13
      repeat' (first|refine r_a ?_|refine stp ?_|refine r_l ?_|refine r_c ?_|refine r_t fun _=>?_|refine r_f fun _=>?_|refine r_m (fun _=>?_) fun _=>?_|refine stq ?_|refine r_i ?_|refine r_x ?_)
      refine ⟨i + 1, by omega, v', hcel', ?_, ?_, at_of rfl, at_of rfl, at_of rfl, at_of rfl, at_of rfl, by omega⟩
      · rw [hstep]; simp only [List.map_append, List.map_cons, List.map_nil]; exact hls'
      · rw [hstep]; simp only [List.map_append, List.map_cons, List.map_nil]; exact h13
    · have : i = n4 := by omega
      subst this
      repeat' (first|refine r_a ?_|refine stp ?_|refine r_l ?_|refine r_c ?_|refine r_t fun _=>?_|refine r_f fun _=>?_|refine r_m (fun _=>?_) fun _=>?_|refine stq ?_|refine r_i ?_|refine r_x ?_)
      exact ⟨v, hls, h9, at_of rfl, at_of rfl, at_of rfl⟩
  rintro φ s15 ⟨vd, hdd, h15, g2, g4, g5⟩
  obtain ⟨xk, o10, e10⟩ : ∃ xk o10, rdI rdK n4 o9 = (xk, o10) := ⟨_, _, rfl⟩
  simp only [e10] at h15 hdd
  have hceld := hdd.cel
  clear h14
  have hdec : dec 16 256 16384 1024 (some bs) = (⟨xv, (st : Nat), xl, xp, fl, xk⟩, o10) := by
    simp only [dec, e1, e2, e3, e4, e5, e6, e7, e8, e9, e10]
  rw [hdec] at hk1 hk0
  simp only at hk1 hk0
  have hxl := rdI_len (rd (pText 16384) []) n2 o4
  rw [e5] at hxl
  simp only at hxl
  have hsum : sumL xl ≤ 4611686018427387904 := by
    have := sumL_rdI 16384 n2 o4
    rw [e5] at this
    simp only at this
    omega
  repeat' (first|refine r_a ?_|refine stp ?_|refine r_l ?_|refine r_c ?_|refine r_t fun _=>?_|refine r_f fun _=>?_|refine r_m (fun _=>?_) fun _=>?_|refine stq ?_|refine r_i ?_|refine r_x ?_)
  refine s_k rfl (c_Close h15.fr h15.rs fun s16 e hU16 he => ?_)
  have h16 := h15.up0 hU16
  clear h15
  have hq16 := h16.at (.head _)
  repeat' (first|refine r_a ?_|refine stp ?_|refine r_l ?_|refine r_c ?_|refine r_t fun _=>?_|refine r_f fun _=>?_|refine r_m (fun _=>?_) fun _=>?_|refine stq ?_|refine r_i ?_|refine r_x ?_)
  · rename_i hne
    have hz16 := h16.at (.tail _ (.head _))
    refine s_st rfl h16.fr hz16 fun s17 hU17 hz17 => ?_
    repeat' (first|refine r_a ?_|refine stp ?_|refine r_l ?_|refine r_c ?_|refine r_t fun _=>?_|refine r_f fun _=>?_|refine r_m (fun _=>?_) fun _=>?_|refine stq ?_|refine r_i ?_|refine r_x ?_)
    refine s_retc rfl hz17 ?_
    exact hk0 _ ((h16.set1 hU17 hz17 (by decide)).up.out .none) (fun h => hne (he.2 h.1))
  · rename_i h0
    refine s_kg rfl (c_Check (x := ⟨xv, (st : Nat), xl, xp, fl, xk⟩) h16.fr ha hbb hcc hdd hsum (by simp only; omega) fun s17 hU17 => ?_)
    have h17 := h16.up0 hU17
    clear hq16 h16
    have hq17 := h17.at (.head _)
    repeat' (first|refine r_a ?_|refine stp ?_|refine r_l ?_|refine r_c ?_|refine r_t fun _=>?_|refine r_f fun _=>?_|refine r_m (fun _=>?_) fun _=>?_|refine stq ?_|refine r_i ?_|refine r_x ?_)
    · rename_i hne
      have hz16 := h17.at (.tail _ (.head _))
      refine s_st rfl h17.fr hz16 fun s18 hU18 hz18 => ?_
      repeat' (first|refine r_a ?_|refine stp ?_|refine r_l ?_|refine r_c ?_|refine r_t fun _=>?_|refine r_f fun _=>?_|refine r_m (fun _=>?_) fun _=>?_|refine stq ?_|refine r_i ?_|refine r_x ?_)
      refine s_retc rfl hz18 ?_
      exact hk0 _ ((h17.set1 hU18 hz18 (by decide)).up.out .none) (fun h => hne h.2)
    · rename_i hc0
      have hz16 := h17.at (.tail _ (.head _))
      refine s_st rfl h17.fr hz16 fun s18 hU18 hz18 => ?_
      repeat' (first|refine r_a ?_|refine stp ?_|refine r_l ?_|refine r_c ?_|refine r_t fun _=>?_|refine r_f fun _=>?_|refine r_m (fun _=>?_) fun _=>?_|refine stq ?_|refine r_i ?_|refine r_x ?_)
      refine s_retc rfl hz18 ?_
      exact hk1 _ va vb vc vd ((h17.set1 hU18 hz18 (by decide)).up.out .none) (he.1 h0) hc0 ha hbb hcc hdd
end Go.Am

namespace Go.Am
open T
attribute [local irreducible] Wp WpO Cal Rt Then Blocked Slc Lq Jq upd' φ0 lst

variable {kn : List AV → St → Option (AV × St)}

/-- The lines of a text, as they are found. -/
def lnI (s : List Nat) : Nat → List (List Nat) × Nat
  | 0 => ([], 0)
  | i + 1 => if i = s.length ∨ s.getD i 0 = 10 then (if (lnI s i).2 < i then (lnI s i).1 ++ [(s.take i).drop (lnI s i).2] else (lnI s i).1, i + 1) else lnI s i

theorem lnI_from (s : List Nat) (i : Nat) : (lnI s i).2 ≤ i := by
  induction i with
  | zero => simp [lnI]
  | succ i ih =>
    rw [lnI]; split
    · exact Nat.le_refl _
    · omega
theorem lnI_no (s : List Nat) (i : Nat) (hi : i ≤ s.length) : ∀ j, (lnI s i).2 ≤ j → j < i → s.getD j 0 ≠ 10 := by
  induction i with
  | zero => intro j _ h; omega
  | succ i ih =>
    intro j h1 h2
    rw [lnI] at h1
    split at h1
    · omega
    · rename_i hn
      by_cases hj : j = i
      · subst hj; exact fun e => hn (.inr e)
      · exact ih (by omega) j h1 (by omega)
theorem lnI_mem (s : List Nat) (i : Nat) (hi : i ≤ s.length + 1) : ∀ y ∈ (lnI s i).1, y ≠ [] ∧ 10 ∉ y := by
  induction i with
  | zero => intro y h; simp [lnI] at h
  | succ i ih =>
    intro y hy
    have hf := lnI_no s i (by omega)
    rw [lnI] at hy
    split at hy
    · simp only at hy
      split at hy
      · rename_i hlt
        rcases List.mem_append.1 hy with h | h
        · exact ih (by omega) y h
        · rw [List.mem_singleton] at h
          subst h
          constructor
          · intro e
            have := congrArg List.length e
            rw [List.length_drop, List.length_take, List.length_nil] at this
            omega
          · intro hm
            obtain ⟨j, hj, e⟩ := List.getElem_of_mem hm
            rw [List.length_drop, List.length_take] at hj
            have := hf ((lnI s i).2 + j) (by omega) (by omega)
            apply this
            rw [List.getElem_drop, List.getElem_take] at e
            rw [List.getD, List.getElem?_eq_getElem (by omega), e]; rfl
      · exact ih (by omega) y hy
    · exact ih (by omega) y hy
theorem lnI_clean (s : List Nat) (h : 10 ∉ s) : ∀ i, i ≤ s.length → lnI s i = ([], 0)
  | 0, _ => rfl
  | i + 1, hi => by
    rw [lnI, if_neg]
    · exact lnI_clean s h i (by omega)
    · rintro (e | e)
      · omega
      · rw [List.getD, List.getElem?_eq_getElem (by omega)] at e
        exact h (e ▸ List.getElem_mem _)
theorem ln_bad (s : List Nat) : badL s = false ↔ (lnI s (s.length + 1)).1 = [s] := by
  constructor
  · intro h
    simp only [badL, Bool.or_eq_false_iff, decide_eq_false_iff_not] at h
    have hc := lnI_clean s h.2 s.length (Nat.le_refl _)
    rw [lnI, if_pos (.inl rfl), hc]
    simp only
    have hp : 0 < s.length := List.length_pos_iff.2 h.1
    rw [if_pos hp]
    simp
  · intro h
    have := lnI_mem s (s.length + 1) (Nat.le_refl _) s (by rw [h]; exact .head _)
    simp only [badL, decide_eq_false this.1, decide_eq_false this.2, Bool.or_false]
theorem lnI_len (s : List Nat) (i : Nat) : (lnI s i).1.length ≤ i := by
  induction i with
  | zero => simp [lnI]
  | succ i ih =>
    rw [lnI]; split
    · simp only; split
      · rw [List.length_append]; simp; omega
      · omega
    · omega

theorem c_lines {s : St} {x : List Nat} {k : AV → St → Prop} (hF : s.Fr) (hx : x.length ≤ 1000000000) (hk : ∀ s' v, Up s s' [] → Ls v 1 ((lnI x (x.length + 1)).1.map AV.str) → k v s') : Cal (EV kn) 18 [.str x] s k := by
  refine cal_fn rfl (f := 18) rfl rfl ?_
  repeat' (first|refine r_a ?_|refine stp ?_|refine r_l ?_|refine r_c ?_|refine r_t fun _=>?_|refine r_f fun _=>?_|refine r_m (fun _=>?_) fun _=>?_|refine stq ?_|refine r_i ?_|refine r_x ?_)
  refine s_lpj (fun (i : Nat) φ s1 => ∃ v W, Up s s1 [] ∧ Slc s1 9 1 v ((lnI x i).1.map AV.str) W ∧ (∀ j ∈ W, s.next ≤ j) ∧ At φ 0 (.str x) true ∧ At φ 3 v true ∧ At φ 4 (.int .i64 ((lnI x i).2 : Nat)) true ∧ At φ 5 (.int .i64 i) true ∧ i ≤ x.length + 1) (fun i => x.length + 1 - i)
    (fun φ s1 => ∃ v, Up s s1 [] ∧ Ls v 1 ((lnI x (x.length + 1)).1.map AV.str) ∧ At φ 3 v true) 0 ?_ ?_ ?_
  · exact ⟨.nsl, [], Up.refl hF, Slc.nil, by simp, at_of rfl, at_of rfl, at_of rfl, at_of rfl, by omega⟩
  · rintro i φ s1 ⟨v, W, hU, hS, hW, g0, g3, g4, g5, hi⟩
    have hfr := lnI_from x i
    by_cases hle : i ≤ x.length
    · by_cases hend : i = x.length ∨ x.getD i 0 = 10
      · have hstep : lnI x (i + 1) = (if (lnI x i).2 < i then (lnI x i).1 ++ [(x.take i).drop (lnI x i).2] else (lnI x i).1, i + 1) := by rw [lnI, if_pos hend]
        have hl := lnI_len x i
        generalize hR : lnI x i = R at hS g4 hfr hl hstep
        obtain ⟨out, fr⟩ := R
        simp only at hS g4 hfr hl hstep
        by_cases he : i = x.length
        ·
          repeat' (first|refine r_a ?_|refine stp ?_|refine r_l ?_|refine r_c ?_|refine r_t fun _=>?_|refine r_f fun _=>?_|refine r_m (fun _=>?_) fun _=>?_|refine stq ?_|refine r_i ?_|refine r_x ?_)
          · refine s_sss rfl (by omega) ?_
            refine s_mk1 rfl rfl hU.fr fun s2 t hU2 hS2 ht => ?_
            refine s_app rfl hU2.fr (hS.up hU.fr hU2 (by simp)) (ys := [AV.str ((x.take i).drop fr)]) rfl ?_ rfl fun v3 s3 W3 hU3 hS3 hN3 => ?_
            · simp only [List.length_map, List.length_cons, List.length_nil, maxL]; omega
            repeat' (first|refine r_a ?_|refine stp ?_|refine r_l ?_|refine r_c ?_|refine r_t fun _=>?_|refine r_f fun _=>?_|refine r_m (fun _=>?_) fun _=>?_|refine stq ?_|refine r_i ?_|refine r_x ?_)
            refine ⟨i + 1, by omega, v3, W3, (hU.then0 hU2).own hU3 hW, ?_, ?_, at_of rfl, at_of rfl, (at_of rfl).eq_of ?_, at_of rfl, by omega⟩
            · rw [hstep, if_pos (by omega)]; simp only [List.map_append, List.map_cons, List.map_nil]; exact hS3
            · intro j hj
              rcases hN3 j hj with h | h
              · exact hW j h
              · have := hU.le; have := hU2.le; omega
            · rw [hstep]; rfl
          · refine ⟨i + 1, by omega, v, W, hU, ?_, hW, at_of rfl, at_of rfl, (at_of rfl).eq_of ?_, at_of rfl, by omega⟩
            · rw [hstep, if_neg (by omega)]; exact hS
            · rw [hstep]; rfl
        · obtain ⟨c, hc⟩ : ∃ c, x[i]? = some c := ⟨_, List.getElem?_eq_getElem (by omega)⟩
          have hx1 : x[((i : Nat) : Int).toNat]? = some c := by rw [Int.toNat_natCast]; exact hc
          have hc10 : c = 10 := by
            rcases hend with h | h
            · exact absurd h he
            · rw [List.getD, hc] at h; exact h
          repeat' (first|refine r_a ?_|refine stp ?_|refine r_l ?_|refine r_c ?_|refine r_t fun _=>?_|refine r_f fun _=>?_|refine r_m (fun _=>?_) fun _=>?_|refine stq ?_|refine r_i ?_|refine r_x ?_)
          · refine s_sss rfl (by omega) ?_
            refine s_mk1 rfl rfl hU.fr fun s2 t hU2 hS2 ht => ?_
            refine s_app rfl hU2.fr (hS.up hU.fr hU2 (by simp)) (ys := [AV.str ((x.take i).drop fr)]) rfl ?_ rfl fun v3 s3 W3 hU3 hS3 hN3 => ?_
            · simp only [List.length_map, List.length_cons, List.length_nil, maxL]; omega
            repeat' (first|refine r_a ?_|refine stp ?_|refine r_l ?_|refine r_c ?_|refine r_t fun _=>?_|refine r_f fun _=>?_|refine r_m (fun _=>?_) fun _=>?_|refine stq ?_|refine r_i ?_|refine r_x ?_)
            refine ⟨i + 1, by omega, v3, W3, (hU.then0 hU2).own hU3 hW, ?_, ?_, at_of rfl, at_of rfl, (at_of rfl).eq_of ?_, at_of rfl, by omega⟩
            · rw [hstep, if_pos (by omega)]; simp only [List.map_append, List.map_cons, List.map_nil]; exact hS3
            · intro j hj
              rcases hN3 j hj with h | h
              · exact hW j h
              · have := hU.le; have := hU2.le; omega
            · rw [hstep]; rfl
          · refine ⟨i + 1, by omega, v, W, hU, ?_, hW, at_of rfl, at_of rfl, (at_of rfl).eq_of ?_, at_of rfl, by omega⟩
            · rw [hstep, if_neg (by omega)]; exact hS
            · rw [hstep]; rfl
      · have hstep : lnI x (i + 1) = lnI x i := by rw [lnI, if_neg hend]
        obtain ⟨c, hc⟩ : ∃ c, x[i]? = some c := ⟨_, List.getElem?_eq_getElem (by omega)⟩
        have hx1 : x[((i : Nat) : Int).toNat]? = some c := by rw [Int.toNat_natCast]; exact hc
        have hc10 : c ≠ 10 := fun e => hend (.inr (by rw [List.getD, hc]; exact e))
        repeat' (first|refine r_a ?_|refine stp ?_|refine r_l ?_|refine r_c ?_|refine r_t fun _=>?_|refine r_f fun _=>?_|refine r_m (fun _=>?_) fun _=>?_|refine stq ?_|refine r_i ?_|refine r_x ?_)
        exact ⟨i + 1, by omega, v, W, hU, by rw [hstep]; exact hS, hW, at_of rfl, at_of rfl, by rw [hstep]; exact at_of rfl, at_of rfl, by omega⟩
    · have : i = x.length + 1 := by omega
      subst this
      repeat' (first|refine r_a ?_|refine stp ?_|refine r_l ?_|refine r_c ?_|refine r_t fun _=>?_|refine r_f fun _=>?_|refine r_m (fun _=>?_) fun _=>?_|refine stq ?_|refine r_i ?_|refine r_x ?_)
      exact ⟨v, hU, hS.ls, at_of rfl⟩
  · rintro φ s1 ⟨v, hU, hls, g3⟩
    repeat' (first|refine r_a ?_|refine stp ?_|refine r_l ?_|refine r_c ?_|refine r_t fun _=>?_|refine r_f fun _=>?_|refine r_m (fun _=>?_) fun _=>?_|refine stq ?_|refine r_i ?_|refine r_x ?_)
    refine s_ret rfl ?_
    exact hk _ v (hU.out .none) hls

theorem ble_tot : ∀ (a b : List Nat), (bytesLess a b || decide (a = b)) = !bytesLess b a
  | [], [] => rfl
  | [], _ :: _ => rfl
  | _ :: _, [] => rfl
  | x :: a, y :: b => by
    have ih := ble_tot a b
    simp only [bytesLess]
    by_cases h1 : x < y
    · have : ¬ y < x := by omega
      have h3 : ¬ y = x := by omega
      simp [h1, this, h3]
    · by_cases h2 : y < x
      · have h3 : ¬ x = y := by omega
        simp [h1, h2, h3]
      · have h3 : x = y := by omega
        subst h3
        simp only [h1, decide_false, Bool.false_or, decide_true, Bool.true_and, List.cons.injEq, true_and]
        exact ih
theorem leN_geq {n q : List Nat} : leN n (some q) = !bytesLess q n := ble_tot n q

set_option maxHeartbeats 8000000 in
theorem c_mcheck {s : St} {x : Sh} {a b c d : AV} {k : AV → St → Prop} (hF : s.Fr) (ha : Ls a 2 (x.vars.map pv)) (hb : Ls b 1 (x.lines.map AV.str)) (hc : Ls c 2 (x.parts.map pp)) (hd : Ls d 1 (x.kids.map pk)) (hsum : sumL x.lines ≤ 1000000000) (hll : x.lines.length ≤ 4611686018427387904)
    (hk : ∀ s', Up s s' [] → k (.int .i64 x.check) s') : Cal (EV kn) 6 [.agg [a, .int .i64 x.status, b, c, .bool x.bg, d]] s k := by
  refine cal_fn rfl (f := 6) rfl rfl ?_
  have hl1 : (x.vars.map pv).length = x.vars.length := by simp
  have hl2 : (x.lines.map AV.str).length = x.lines.length := by simp
  have hl3 : (x.parts.map pp).length = x.parts.length := by simp
  have hl4 : (x.kids.map pk).length = x.kids.length := by simp
  repeat' (first|refine r_a ?_|refine stp ?_|refine r_l ?_|refine r_c ?_|refine r_t fun _=>?_|refine r_f fun _=>?_|refine r_m (fun _=>?_) fun _=>?_|refine stq ?_|refine r_i ?_|refine r_x ?_)
  refine s_bx rfl hF fun s1 q hU1 hq hql => ?_
  unfold Sh.check at hk
  repeat' (first|refine r_a ?_|refine stp ?_|refine r_l ?_|refine r_c ?_|refine r_t fun _=>?_|refine r_f fun _=>?_|refine r_m (fun _=>?_) fun _=>?_|refine stq ?_|refine r_i ?_|refine r_x ?_)
  · refine s_ret rfl ?_
    have := hk _ (hU1.out .none)
    rw [chkVars, if_pos (show 32 < x.vars.length by omega), if_pos (by decide)] at this
    exact this
  rename_i hv32
  have hcv : chkVars x.vars = chkV none x.vars := by rw [chkVars, if_neg (by omega)]
  rw [hcv] at hk
  -- the variables
  refine s_lpj (fun (i : Nat) φ s2 => Up s s2 [] ∧ look s2.objs q = some (.cells 27 [a, .int .i64 x.status, b, c, .bool x.bg, d]) ∧ At φ 1 (.ptr q 0) true ∧ At φ 3 (.int .i64 i) true ∧ i ≤ x.vars.length ∧ chkV (prevN x.vars i) (x.vars.drop i) = chkV none x.vars) (fun i => x.vars.length - i)
    (fun φ s2 => Up s s2 [] ∧ look s2.objs q = some (.cells 27 [a, .int .i64 x.status, b, c, .bool x.bg, d]) ∧ At φ 1 (.ptr q 0) true ∧ chkV none x.vars = 0) 0 ?_ ?_ ?_
  · exact ⟨hU1, hq, at_of rfl, at_of rfl, by omega, rfl⟩
  · clear hq
    rintro i φ s2 ⟨hU, hq, g1, g3, hi, hc⟩
    by_cases hlt : i < x.vars.length
    · obtain ⟨⟨n, v⟩, he⟩ : ∃ e, x.vars[i]? = some e := ⟨_, List.getElem?_eq_getElem hlt⟩
      have hx := map_get (f := pv) (i := i) he rfl
      simp only [pv] at hx
      rw [drop_cons he, chkV] at hc
      repeat' (first|refine r_a ?_|refine stp ?_|refine r_l ?_|refine r_c ?_|refine r_t fun _=>?_|refine r_f fun _=>?_|refine r_m (fun _=>?_) fun _=>?_|refine stq ?_|refine r_i ?_|refine r_x ?_)
      refine s_al hU.fr fun s3 p hU3 hp hpl => ?_
      repeat' (first|refine r_a ?_|refine stp ?_|refine r_l ?_|refine r_c ?_|refine r_t fun _=>?_|refine r_f fun _=>?_|refine r_m (fun _=>?_) fun _=>?_|refine stq ?_|refine r_i ?_|refine r_x ?_)
      refine s_st rfl hU3.fr hp fun s4 hU4 hp4 => ?_
      have hqp : q ≠ p := by have := hU.fr.lt hq; omega
      have hq4 := hU4.at1 hU3.fr (hU3.at0 hU.fr hq) hqp
      have hUs : Up s s4 [] := (hU.then0 hU3).own1 hU4 (by have := hU.le; omega)
      clear hp hq
      repeat' (first|refine r_a ?_|refine stp ?_|refine r_l ?_|refine r_c ?_|refine r_t fun _=>?_|refine r_f fun _=>?_|refine r_m (fun _=>?_) fun _=>?_|refine stq ?_|refine r_i ?_|refine r_x ?_)
      refine s_k rfl (c_IsVariable hUs.fr fun s5 hU5 => ?_)
      have hp5 := hU5.at0 hUs.fr hp4
      have hq5 := hU5.at0 hUs.fr hq4
      have hU6 := hUs.then0 hU5
      clear hp4 hq4
      have hk := hk _ (hU6.out .none)
      cases hv : isVar n
      ·
        repeat' (first|refine r_a ?_|refine stp ?_|refine r_l ?_|refine r_c ?_|refine r_t fun _=>?_|refine r_f fun _=>?_|refine r_m (fun _=>?_) fun _=>?_|refine stq ?_|refine r_i ?_|refine r_x ?_)
        refine s_ret rfl ?_
        have hE : chkV none x.vars = 12 := by rw [← hc, if_pos (.inl hv)]
        rw [hE, if_pos (by decide)] at hk
        exact hk
      · cases i with
        | zero =>
          repeat' (first|refine r_a ?_|refine stp ?_|refine r_l ?_|refine r_c ?_|refine r_t fun _=>?_|refine r_f fun _=>?_|refine r_m (fun _=>?_) fun _=>?_|refine stq ?_|refine r_i ?_|refine r_x ?_)
          · refine s_ret rfl ?_
            have hE : chkV none x.vars = 12 := by rw [← hc, if_pos (.inr (by assumption))]
            rw [hE, if_pos (by decide)] at hk
            exact hk
          · rename_i h1 h2
            refine s_ret rfl ?_
            have hE : chkV none x.vars = 5 := by rw [← hc, if_neg (by simp [hv]; exact h1), if_pos (by omega)]
            rw [hE, if_pos (by decide)] at hk
            exact hk
          · rename_i h1 h2 _
            refine ⟨1, by omega, hU6, hq5, at_of rfl, at_of rfl, by omega, ?_⟩
            rw [← hc, if_neg (by simp [hv]; exact h1), if_neg (by omega), if_neg (by simp [prevN, leN])]
            simp only [prevN, he]; rfl
        | succ j =>
          obtain ⟨⟨n', v'⟩, he'⟩ : ∃ e, x.vars[j]? = some e := ⟨_, List.getElem?_eq_getElem (by omega)⟩
          have hx' := map_get (f := pv) (i := ((j + 1 : Nat) : Int) - 1) he' (by omega)
          simp only [pv] at hx'
          have hpr : prevN x.vars (j + 1) = some n' := by simp only [prevN, he']; rfl
          rw [hpr, leN_geq] at hc
          clear hx
          repeat' (first|refine r_a ?_|refine stp ?_|refine r_l ?_|refine r_c ?_|refine r_t fun _=>?_|refine r_f fun _=>?_|refine r_m (fun _=>?_) fun _=>?_|refine stq ?_|refine r_i ?_|refine r_x ?_)
          · refine s_ret rfl ?_
            have hE : chkV none x.vars = 12 := by rw [← hc, if_pos (.inr (by assumption))]
            rw [hE, if_pos (by decide)] at hk
            exact hk
          · rename_i h1 h2
            refine s_ret rfl ?_
            have hE : chkV none x.vars = 5 := by rw [← hc, if_neg (by simp [hv]; exact h1), if_pos (by omega)]
            rw [hE, if_pos (by decide)] at hk
            exact hk
          · rename_i h1 h2 _ h3
            refine s_ret rfl ?_
            have hE : chkV none x.vars = 32 := by rw [← hc, if_neg (by simp [hv]; exact h1), if_neg (by omega), if_pos (by rw [h3]; rfl)]
            rw [hE, if_pos (by decide)] at hk
            exact hk
          · rename_i h1 h2 _ h3
            refine ⟨j + 2, by omega, hU6, hq5, at_of rfl, (at_of rfl).eq_of (aint (by omega)), by omega, ?_⟩
            rw [← hc, if_neg (by simp [hv]; exact h1), if_neg (by omega), if_neg (by rw [h3]; decide)]
            simp only [prevN, he]; rfl
    ·
      repeat' (first|refine r_a ?_|refine stp ?_|refine r_l ?_|refine r_c ?_|refine r_t fun _=>?_|refine r_f fun _=>?_|refine r_m (fun _=>?_) fun _=>?_|refine stq ?_|refine r_i ?_|refine r_x ?_)
      refine ⟨hU, hq, at_of rfl, ?_⟩
      rw [List.drop_of_length_le (by omega)] at hc
      exact hc.symm
  clear hq
  rintro φ s2 ⟨hU, hq, g1, hc0⟩
  rw [hc0, if_neg (by decide)] at hk
  repeat' (first|refine r_a ?_|refine stp ?_|refine r_l ?_|refine r_c ?_|refine r_t fun _=>?_|refine r_f fun _=>?_|refine r_m (fun _=>?_) fun _=>?_|refine stq ?_|refine r_i ?_|refine r_x ?_)
  · refine s_ret rfl ?_
    have hk := hk _ (hU.out .none)
    rw [if_pos (.inl (by omega))] at hk
    exact hk
  · refine s_ret rfl ?_
    have hk := hk _ (hU.out .none)
    rw [if_pos (.inr (by omega))] at hk
    exact hk
  rename_i hs1 hs2
  rw [if_neg (by omega)] at hk
  -- the sum of the lines
  refine s_lpj (fun (i : Nat) φ s3 => s3 = s2 ∧ At φ 1 (.ptr q 0) true ∧ At φ 5 (.int .i64 (sumL (x.lines.take i) : Nat)) true ∧ At φ 6 (.int .i64 i) true ∧ i ≤ x.lines.length) (fun i => x.lines.length - i)
    (fun φ s3 => s3 = s2 ∧ At φ 1 (.ptr q 0) true ∧ At φ 5 (.int .i64 (sumL x.lines : Nat)) true) 0 ?_ ?_ ?_
  · exact ⟨rfl, at_of rfl, at_of rfl, at_of rfl, by omega⟩
  · rintro i φ s3 ⟨rfl, g1, g5, g6, hi⟩
    by_cases hlt : i < x.lines.length
    · obtain ⟨y, he⟩ : ∃ e, x.lines[i]? = some e := ⟨_, List.getElem?_eq_getElem hlt⟩
      have hx := map_get (f := AV.str) (i := i) he rfl
      have h1 := sumL_take he
      have h2 := sumL_le x.lines (i + 1)
      repeat' (first|refine r_a ?_|refine stp ?_|refine r_l ?_|refine r_c ?_|refine r_t fun _=>?_|refine r_f fun _=>?_|refine r_m (fun _=>?_) fun _=>?_|refine stq ?_|refine r_i ?_|refine r_x ?_)
      exact ⟨i + 1, by omega, rfl, at_of rfl, (at_of rfl).eq_of (aint (by omega)), at_of rfl, by omega⟩
    ·
      repeat' (first|refine r_a ?_|refine stp ?_|refine r_l ?_|refine r_c ?_|refine r_t fun _=>?_|refine r_f fun _=>?_|refine r_m (fun _=>?_) fun _=>?_|refine stq ?_|refine r_i ?_|refine r_x ?_)
      rw [List.take_of_length_le (by omega)] at g5
      exact ⟨rfl, at_of rfl, at_of rfl⟩
  rintro φ s3 ⟨rfl, g1, g5⟩
  repeat' (first|refine r_a ?_|refine stp ?_|refine r_l ?_|refine r_c ?_|refine r_t fun _=>?_|refine r_f fun _=>?_|refine r_m (fun _=>?_) fun _=>?_|refine stq ?_|refine r_i ?_|refine r_x ?_)
  · refine s_ret rfl ?_
    have hk := hk _ (hU.out .none)
    rw [chkLines, if_pos (show 1024 < x.lines.length ∨ 16384 < sumL x.lines by omega), if_pos (by decide)] at hk
    exact hk
  · refine s_ret rfl ?_
    have hk := hk _ (hU.out .none)
    rw [chkLines, if_pos (show 1024 < x.lines.length ∨ 16384 < sumL x.lines by omega), if_pos (by decide)] at hk
    exact hk
  rename_i hn1 hn2
  rw [chkLines, if_neg (show ¬ (1024 < x.lines.length ∨ 16384 < sumL x.lines) by omega)] at hk
  -- the lines
  refine s_lpj (fun (i : Nat) φ s4 => Up s s4 [] ∧ look s4.objs q = some (.cells 27 [a, .int .i64 x.status, b, c, .bool x.bg, d]) ∧ At φ 1 (.ptr q 0) true ∧ At φ 7 (.int .i64 i) true ∧ i ≤ x.lines.length ∧ (x.lines.take i).any badL = false) (fun i => x.lines.length - i)
    (fun φ s4 => Up s s4 [] ∧ look s4.objs q = some (.cells 27 [a, .int .i64 x.status, b, c, .bool x.bg, d]) ∧ At φ 1 (.ptr q 0) true ∧ x.lines.any badL = false) 0 ?_ ?_ ?_
  · exact ⟨hU, hq, at_of rfl, at_of rfl, by omega, rfl⟩
  · clear hq
    rintro i φ s4 ⟨hU, hq, g1, g7, hi, hany⟩
    by_cases hlt : i < x.lines.length
    · obtain ⟨y, he⟩ : ∃ e, x.lines[i]? = some e := ⟨_, List.getElem?_eq_getElem hlt⟩
      have hx := map_get (f := AV.str) (i := i) he rfl
      have hyl := mem_sumL (List.mem_of_getElem? he)
      repeat' (first|refine r_a ?_|refine stp ?_|refine r_l ?_|refine r_c ?_|refine r_t fun _=>?_|refine r_f fun _=>?_|refine r_m (fun _=>?_) fun _=>?_|refine stq ?_|refine r_i ?_|refine r_x ?_)
      refine s_k rfl (c_lines hU.fr (by omega) fun s5 v hU5 hv => ?_)
      have hq5 := hU5.at0 hU.fr hq
      have hU6 := hU.then0 hU5
      clear hq
      have hbad := ln_bad y
      generalize (lnI y (y.length + 1)).1 = out at hv hbad
      have hol : (out.map AV.str).length = out.length := by simp
      by_cases ho : out.length = 1
      · obtain ⟨z, rfl⟩ := List.length_eq_one_iff.1 ho
        have hx0 : (([z] : List (List Nat)).map AV.str)[(0 : Int).toNat]? = some (.str z) := rfl
        repeat' (first|refine r_a ?_|refine stp ?_|refine r_l ?_|refine r_c ?_|refine r_t fun _=>?_|refine r_f fun _=>?_|refine r_m (fun _=>?_) fun _=>?_|refine stq ?_|refine r_i ?_|refine r_x ?_)
        · rename_i hne
          refine s_ret rfl ?_
          have hk := hk _ (hU6.out .none)
          have hb : badL y = true := by
            cases hb : badL y with
            | true => rfl
            | false => have := hbad.1 hb; simp at this; exact absurd this hne
          rw [if_pos (any_of he hb), if_pos (by decide)] at hk
          exact hk
        · rename_i heq
          refine ⟨i + 1, by omega, hU6, hq5, at_of rfl, at_of rfl, by omega, ?_⟩
          rw [any_take he, hany, hbad.2 (by rw [heq])]; rfl
      ·
        repeat' (first|refine r_a ?_|refine stp ?_|refine r_l ?_|refine r_c ?_|refine r_t fun _=>?_|refine r_f fun _=>?_|refine r_m (fun _=>?_) fun _=>?_|refine stq ?_|refine r_i ?_|refine r_x ?_)
        refine s_ret rfl ?_
        have hk := hk _ (hU6.out .none)
        have hb : badL y = true := by
          cases hb : badL y with
          | true => rfl
          | false => have := hbad.1 hb; rw [this] at ho; exact absurd rfl ho
        rw [if_pos (any_of he hb), if_pos (by decide)] at hk
        exact hk
    ·
      repeat' (first|refine r_a ?_|refine stp ?_|refine r_l ?_|refine r_c ?_|refine r_t fun _=>?_|refine r_f fun _=>?_|refine r_m (fun _=>?_) fun _=>?_|refine stq ?_|refine r_i ?_|refine r_x ?_)
      rw [List.take_of_length_le (by omega)] at hany
      exact ⟨hU, hq, at_of rfl, hany⟩
  clear hq hU
  rintro φ s4 ⟨hU, hq, g1, hany⟩
  rw [hany, if_neg (by decide)] at hk
  repeat' (first|refine r_a ?_|refine stp ?_|refine r_l ?_|refine r_c ?_|refine r_t fun _=>?_|refine r_f fun _=>?_|refine r_m (fun _=>?_) fun _=>?_|refine stq ?_|refine r_i ?_|refine r_x ?_)
  · refine s_ret rfl ?_
    have hk := hk _ (hU.out .none)
    rw [chkParts, if_pos (show 16 < x.parts.length by omega), if_pos (by decide)] at hk
    exact hk
  rename_i hp16
  rw [chkParts, if_neg (show ¬ 16 < x.parts.length by omega)] at hk
  -- the parts
  refine s_lpj (fun (i : Nat) φ s2 => Up s s2 [] ∧ look s2.objs q = some (.cells 27 [a, .int .i64 x.status, b, c, .bool x.bg, d]) ∧ At φ 1 (.ptr q 0) true ∧ At φ 9 (.int .i64 i) true ∧ i ≤ x.parts.length ∧ firstE errP (x.parts.drop i) = firstE errP x.parts) (fun i => x.parts.length - i)
    (fun φ s2 => Up s s2 [] ∧ look s2.objs q = some (.cells 27 [a, .int .i64 x.status, b, c, .bool x.bg, d]) ∧ At φ 1 (.ptr q 0) true ∧ firstE errP x.parts = 0) 0 ?_ ?_ ?_
  · exact ⟨hU, hq, at_of rfl, at_of rfl, by omega, rfl⟩
  · clear hq hU
    rintro i φ s2 ⟨hU, hq, g1, g9, hi, hc⟩
    by_cases hlt : i < x.parts.length
    · obtain ⟨⟨n, v⟩, he⟩ : ∃ e, x.parts[i]? = some e := ⟨_, List.getElem?_eq_getElem hlt⟩
      have hx := map_get (f := pp) (i := i) he rfl
      simp only [pp] at hx
      repeat' (first|refine r_a ?_|refine stp ?_|refine r_l ?_|refine r_c ?_|refine r_t fun _=>?_|refine r_f fun _=>?_|refine r_m (fun _=>?_) fun _=>?_|refine stq ?_|refine r_i ?_|refine r_x ?_)
      refine s_al hU.fr fun s3 p hU3 hp hpl => ?_
      repeat' (first|refine r_a ?_|refine stp ?_|refine r_l ?_|refine r_c ?_|refine r_t fun _=>?_|refine r_f fun _=>?_|refine r_m (fun _=>?_) fun _=>?_|refine stq ?_|refine r_i ?_|refine r_x ?_)
      refine s_st rfl hU3.fr hp fun s4 hU4 hp4 => ?_
      have hqp : q ≠ p := by have := hU.fr.lt hq; omega
      have hq4 := hU4.at1 hU3.fr (hU3.at0 hU.fr hq) hqp
      have hUs : Up s s4 [] := (hU.then0 hU3).own1 hU4 (by have := hU.le; omega)
      clear hp hq
      have hk := hk _ (hUs.out .none)
      repeat' (first|refine r_a ?_|refine stp ?_|refine r_l ?_|refine r_c ?_|refine r_t fun _=>?_|refine r_f fun _=>?_|refine r_m (fun _=>?_) fun _=>?_|refine stq ?_|refine r_i ?_|refine r_x ?_)
      · rename_i h1
        have hE : errP (n, v) = 2 := by rw [errP, if_pos (.inl h1)]
        refine s_ret rfl ?_
        rw [firstE_of he hc (by rw [hE]; decide), hE, if_neg (show ¬ (2 : Int) = 0 by decide), if_pos (by decide)] at hk
        exact hk
      · rename_i h1
        have hE : errP (n, v) = 2 := by rw [errP, if_pos (.inr h1)]
        refine s_ret rfl ?_
        rw [firstE_of he hc (by rw [hE]; decide), hE, if_neg (show ¬ (2 : Int) = 0 by decide), if_pos (by decide)] at hk
        exact hk
      · rename_i h1 h2 h3
        have hE : errP (n, v) = 3 := by rw [errP, if_neg (by simp only; omega), if_pos h3]
        refine s_ret rfl ?_
        rw [firstE_of he hc (by rw [hE]; decide), hE, if_neg (show ¬ (3 : Int) = 0 by decide), if_pos (by decide)] at hk
        exact hk
      · rename_i h1 h2 h3 h4
        have hE : errP (n, v) = 5 := by rw [errP, if_neg (by simp only; omega), if_neg h3, if_pos (by simp only; omega)]
        refine s_ret rfl ?_
        rw [firstE_of he hc (by rw [hE]; decide), hE, if_neg (show ¬ (5 : Int) = 0 by decide), if_pos (by decide)] at hk
        exact hk
      · rename_i h1 h2 h3 h4
        have hE : errP (n, v) = 0 := by rw [errP, if_neg (by simp only; omega), if_neg h3, if_neg (by simp only; omega)]
        exact ⟨i + 1, by omega, hUs, hq4, at_of rfl, at_of rfl, by omega, firstE_next he hc hE⟩
    ·
      repeat' (first|refine r_a ?_|refine stp ?_|refine r_l ?_|refine r_c ?_|refine r_t fun _=>?_|refine r_f fun _=>?_|refine r_m (fun _=>?_) fun _=>?_|refine stq ?_|refine r_i ?_|refine r_x ?_)
      refine ⟨hU, hq, at_of rfl, ?_⟩
      rw [List.drop_of_length_le (by omega)] at hc
      exact hc.symm
  clear hq hU
  rintro φ s2 ⟨hU, hq, g1, hp0⟩
  rw [hp0, if_pos rfl] at hk
  generalize hbg : x.bg = bg at hq hk
  by_cases hb10 : bg = true ∧ x.parts.length = 0
  · obtain ⟨rfl, hz⟩ := hb10
    repeat' (first|refine r_a ?_|refine stp ?_|refine r_l ?_|refine r_c ?_|refine r_t fun _=>?_|refine r_f fun _=>?_|refine r_m (fun _=>?_) fun _=>?_|refine stq ?_|refine r_i ?_|refine r_x ?_)
    refine s_ret rfl ?_
    have hk := hk _ (hU.out .none)
    rw [if_pos (show true = true ∧ x.parts.length = 0 from ⟨rfl, hz⟩), if_pos (by decide)] at hk
    exact hk
  rw [if_neg hb10, if_neg (by decide)] at hk
  refine s_then ?_
  refine s_q ?_
  refine s_cut (fun φ s3 => s3 = s2 ∧ At φ 1 (.ptr q 0) true) ?_ ?_
  · cases bg
    ·
      repeat' (first|refine r_a ?_|refine stp ?_|refine r_l ?_|refine r_c ?_|refine r_t fun _=>?_|refine r_f fun _=>?_|refine r_m (fun _=>?_) fun _=>?_|refine stq ?_|refine r_i ?_|refine r_x ?_)
      exact ⟨rfl, at_of rfl⟩
    · have hz : x.parts.length ≠ 0 := fun h => hb10 ⟨rfl, h⟩
      repeat' (first|refine r_a ?_|refine stp ?_|refine r_l ?_|refine r_c ?_|refine r_t fun _=>?_|refine r_f fun _=>?_|refine r_m (fun _=>?_) fun _=>?_|refine stq ?_|refine r_i ?_|refine r_x ?_)
      exact ⟨rfl, at_of rfl⟩
  rintro φ s3 ⟨rfl, g1⟩
  repeat' (first|refine r_a ?_|refine stp ?_|refine r_l ?_|refine r_c ?_|refine r_t fun _=>?_|refine r_f fun _=>?_|refine r_m (fun _=>?_) fun _=>?_|refine stq ?_|refine r_i ?_|refine r_x ?_)
  · refine s_ret rfl ?_
    have hk := hk _ (hU.out .none)
    rw [if_pos (by omega)] at hk
    exact hk
  rename_i hk8
  rw [if_neg (by omega)] at hk
  refine s_lpj (fun (i : Nat) φ s5 => s5 = s3 ∧ At φ 1 (.ptr q 0) true ∧ At φ 11 (.int .i64 i) true ∧ i ≤ x.kids.length ∧ (x.kids.take i).any badK = false) (fun i => x.kids.length - i)
    (fun φ s5 => s5 = s3 ∧ x.kids.any badK = false) 0 ?_ ?_ ?_
  · exact ⟨rfl, at_of rfl, at_of rfl, by omega, rfl⟩
  · rintro i φ s5 ⟨rfl, g1, g11, hi, hany⟩
    by_cases hlt : i < x.kids.length
    · obtain ⟨y, he⟩ : ∃ e, x.kids[i]? = some e := ⟨_, List.getElem?_eq_getElem hlt⟩
      have hx := map_get (f := pk) (i := i) he rfl
      simp only [pk] at hx
      have hk := hk _ (hU.out .none)
      repeat' (first|refine r_a ?_|refine stp ?_|refine r_l ?_|refine r_c ?_|refine r_t fun _=>?_|refine r_f fun _=>?_|refine r_m (fun _=>?_) fun _=>?_|refine stq ?_|refine r_i ?_|refine r_x ?_)
      · rename_i e
        refine s_ret rfl ?_
        rw [if_pos (any_of he (by simp [badK, e]))] at hk
        exact hk
      · rename_i e
        refine s_ret rfl ?_
        rw [if_pos (any_of he (by simp [badK, e]))] at hk
        exact hk
      · exact ⟨i + 1, by omega, rfl, at_of rfl, at_of rfl, by omega, by rw [any_take he, hany, badK, decide_eq_false (by omega), decide_eq_false (by omega)]; rfl⟩
    ·
      repeat' (first|refine r_a ?_|refine stp ?_|refine r_l ?_|refine r_c ?_|refine r_t fun _=>?_|refine r_f fun _=>?_|refine r_m (fun _=>?_) fun _=>?_|refine stq ?_|refine r_i ?_|refine r_x ?_)
      rw [List.take_of_length_le (by omega)] at hany
      exact ⟨rfl, hany⟩
  rintro φ s5 ⟨rfl, hany⟩
  repeat' (first|refine r_a ?_|refine stp ?_|refine r_l ?_|refine r_c ?_|refine r_t fun _=>?_|refine r_f fun _=>?_|refine r_m (fun _=>?_) fun _=>?_|refine stq ?_|refine r_i ?_|refine r_x ?_)
  refine s_ret rfl ?_
  have hk := hk _ (hU.out .none)
  rw [if_neg (by rw [hany]; decide)] at hk
  exact hk
end Go.Am

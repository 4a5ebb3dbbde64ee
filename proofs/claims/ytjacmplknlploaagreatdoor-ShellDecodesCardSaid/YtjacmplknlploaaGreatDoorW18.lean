/- The document's reading of a state. ShellDecodes: the walk. The plain law of Decode: what is read is what is written. -/
import Derived.Test.YtjacmplknlploaaGreatDoorW17
set_option linter.all false
namespace Go.Am
open T
attribute [local irreducible] Wp WpO Cal Rt Then Blocked Slc Lq Jq upd' φ0 lst

variable {kn : List AV → St → Option (AV × St)}

set_option maxHeartbeats 8000000 in
theorem c_parses {s : St} {bs : List Nat} {k : AV → St → Prop} (hF : s.Fr) (hb : bs.length ≤ 20000000) (h256 : B256 bs)
    (hk : ∀ s', Up s s' [] → (((dec 65536 65536 65536 65536 (some bs)).2 = some [] ∧ (dec 65536 65536 65536 65536 (some bs)).1.check = 0) → k (.bool true) s') ∧ (¬ ((dec 65536 65536 65536 65536 (some bs)).2 = some [] ∧ (dec 65536 65536 65536 65536 (some bs)).1.check = 0) → k (.bool false) s')) :
    Cal (EV kn) 16 [.str bs] s k := by
  refine cal_fn rfl (f := 16) rfl rfl ?_
  repeat' (first|refine r_a ?_|refine stp ?_|refine r_l ?_|refine r_c ?_|refine r_t fun _=>?_|refine r_f fun _=>?_|refine r_m (fun _=>?_) fun _=>?_|refine stq ?_|refine r_i ?_|refine r_x ?_)
  refine s_k rfl ?_
  refine c_NewReader (bs := bs) hF ⟨.inr ⟨0, rfl⟩⟩ hb fun r s2 hU2 hR hrl => ?_
  have h2 : DS s s2 r (some bs) [] 39 2 .nsl [] := ⟨hU2, ⟨hR, hb, h256⟩, hrl, by simp, by simp, [], Slc.nil, by simp⟩
  clear hR hU2
  repeat' (first|refine r_a ?_|refine stp ?_|refine r_l ?_|refine r_c ?_|refine r_t fun _=>?_|refine r_f fun _=>?_|refine r_m (fun _=>?_) fun _=>?_|refine stq ?_|refine r_i ?_|refine r_x ?_)
  refine s_al h2.fr fun s3 q hU3 hq hql => ?_
  have h3 := h2.al hU3 hq hql (by decide)
  clear hq h2 hU3 hql
  repeat' (first|refine r_a ?_|refine stp ?_|refine r_l ?_|refine r_c ?_|refine r_t fun _=>?_|refine r_f fun _=>?_|refine r_m (fun _=>?_) fun _=>?_|refine stq ?_|refine r_i ?_|refine r_x ?_)
  -- the variables
  refine s_k rfl (h3.num fun s4 h4 => ?_)
  have l1 := rdN_le 32 (some bs)
  obtain ⟨n1, o1, e1⟩ : ∃ n1 o1, rd (pNum 32) 0 (some bs) = (n1, o1) := ⟨_, _, rfl⟩
  simp only [e1] at h4 l1 ⊢
  clear h3
  repeat' (first|refine r_a ?_|refine stp ?_|refine r_l ?_|refine r_c ?_|refine r_t fun _=>?_|refine r_f fun _=>?_|refine r_m (fun _=>?_) fun _=>?_|refine stq ?_|refine r_i ?_|refine r_x ?_)
  refine s_lpj (fun (i : Nat) φ s5 => ∃ v, Cel v 1 [v] ∧ Ls v 2 ((rdI (rdV 65536 65536) i o1).1.map pv) ∧ DS s s5 r (rdI (rdV 65536 65536) i o1).2 [(q, 27, [v, .int .i64 0, .nsl, .nsl, .bool false, .nsl])] 39 2 v ((rdI (rdV 65536 65536) i o1).1.map pv)
      ∧ At φ 3 (.ptr r 0) true ∧ At φ 4 (.ptr q 0) true ∧ At φ 5 (.int .i64 n1) true ∧ At φ 6 (.int .i64 i) true ∧ i ≤ n1) (fun i => n1 - i)
    (fun φ s5 => ∃ v, Ls v 2 ((rdI (rdV 65536 65536) n1 o1).1.map pv) ∧ DS s s5 r (rdI (rdV 65536 65536) n1 o1).2 [(q, 27, [v, .int .i64 0, .nsl, .nsl, .bool false, .nsl])] 39 2 v ((rdI (rdV 65536 65536) n1 o1).1.map pv)
      ∧ At φ 3 (.ptr r 0) true ∧ At φ 4 (.ptr q 0) true) 0 ?_ ?_ ?_
  · exact ⟨.nsl, inferInstance, Ls.nil, h4, at_of rfl, at_of rfl, at_of rfl, at_of rfl, by omega⟩
  · rintro i φ s5 ⟨v, hcel, hls, h5, g3, g4, g5, g6, hi⟩
    by_cases hlt : i < n1
    · have hlen := rdI_len (rdV 65536 65536) i o1
      have hstep : rdI (rdV 65536 65536) (i + 1) o1 = ((rdI (rdV 65536 65536) i o1).1 ++ [((rdV 65536 65536) (rdI (rdV 65536 65536) i o1).2).1], ((rdV 65536 65536) (rdI (rdV 65536 65536) i o1).2).2) := rfl
      generalize hR1 : rdI (rdV 65536 65536) i o1 = R at hls h5 hlen hstep
      obtain ⟨l, oi⟩ := R
      simp only at hls h5 hlen hstep
      simp only [rdV] at hstep
      have hq9 := h5.at (.head _)
      repeat' (first|refine r_a ?_|refine stp ?_|refine r_l ?_|refine r_c ?_|refine r_t fun _=>?_|refine r_f fun _=>?_|refine r_m (fun _=>?_) fun _=>?_|refine stq ?_|refine r_i ?_|refine r_x ?_)
      refine s_k rfl (h5.text fun s7 h7 => ?_)
      obtain ⟨tx, o2, e2⟩ : ∃ tx o2, rd (pText 65536) [] oi = (tx, o2) := ⟨_, _, rfl⟩
      simp only [e2] at h7 hstep ⊢
      replace hq9 := h7.at (.head _)
      repeat' (first|refine r_a ?_|refine stp ?_|refine r_l ?_|refine r_c ?_|refine r_t fun _=>?_|refine r_f fun _=>?_|refine r_m (fun _=>?_) fun _=>?_|refine stq ?_|refine r_i ?_|refine r_x ?_)
      refine s_k rfl (h7.text fun s9 h9 => ?_)
      obtain ⟨ty, o3, e3⟩ : ∃ ty o3, rd (pText 65536) [] o2 = (ty, o3) := ⟨_, _, rfl⟩
      simp only [e3] at h9 hstep ⊢
      replace hq9 := h9.at (.head _)
      repeat' (first|refine r_a ?_|refine stp ?_|refine r_l ?_|refine r_c ?_|refine r_t fun _=>?_|refine r_f fun _=>?_|refine r_m (fun _=>?_) fun _=>?_|refine stq ?_|refine r_i ?_|refine r_x ?_)
      refine d_mk1 rfl rfl h9 fun s11 t h11 => ?_
      replace hq9 := h11.at (.head _)
      repeat' (first|refine r_a ?_|refine stp ?_|refine r_l ?_|refine r_c ?_|refine r_t fun _=>?_|refine r_f fun _=>?_|refine r_m (fun _=>?_) fun _=>?_|refine stq ?_|refine r_i ?_|refine r_x ?_)
      refine d_app rfl h11 (ys := [pv (tx, ty)]) rfl ?_ rfl fun v' s12 h12 hcel' hls' => ?_
      · simp only [List.length_map, hlen, List.length_cons, List.length_nil, maxL]; omega
      replace hq9 := h12.at (.head _)
      repeat' (first|refine r_a ?_|refine stp ?_|refine r_l ?_|refine r_c ?_|refine r_t fun _=>?_|refine r_f fun _=>?_|refine r_m (fun _=>?_) fun _=>?_|refine stq ?_|refine r_i ?_|refine r_x ?_)
      refine s_st rfl h12.fr hq9 fun s13 hU13 hq13 => ?_
      have h13 := h12.set0 hU13 hq13 (by decide)
      clear hq9 hq13
      repeat' (first|refine r_a ?_|refine stp ?_|refine r_l ?_|refine r_c ?_|refine r_t fun _=>?_|refine r_f fun _=>?_|refine r_m (fun _=>?_) fun _=>?_|refine stq ?_|refine r_i ?_|refine r_x ?_)
      refine ⟨i + 1, by omega, v', hcel', ?_, ?_, at_of rfl, at_of rfl, at_of rfl, at_of rfl, by omega⟩
      · rw [hstep]; simp only [List.map_append, List.map_cons, List.map_nil]; exact hls'
      · rw [hstep]; simp only [List.map_append, List.map_cons, List.map_nil]; exact h13
    · have : i = n1 := by omega
      subst this
      repeat' (first|refine r_a ?_|refine stp ?_|refine r_l ?_|refine r_c ?_|refine r_t fun _=>?_|refine r_f fun _=>?_|refine r_m (fun _=>?_) fun _=>?_|refine stq ?_|refine r_i ?_|refine r_x ?_)
      exact ⟨v, hls, h5, at_of rfl, at_of rfl⟩
  rintro φ s5 ⟨va, ha, h5, g3, g4⟩
  obtain ⟨xv, o2, e2⟩ : ∃ xv o2, rdI (rdV 65536 65536) n1 o1 = (xv, o2) := ⟨_, _, rfl⟩
  simp only [e2] at h5 ha
  have hcela := ha.cel
  clear h4
  replace h5 := h5.nil 9 1
  repeat' (first|refine r_a ?_|refine stp ?_|refine r_l ?_|refine r_c ?_|refine r_t fun _=>?_|refine r_f fun _=>?_|refine r_m (fun _=>?_) fun _=>?_|refine stq ?_|refine r_i ?_|refine r_x ?_)
  -- the status
  refine s_k rfl (h5.num fun s6 h6 => ?_)
  have l3 := rdN_le 999 o2
  obtain ⟨st, o3, e3⟩ : ∃ st o3, rd (pNum 999) 0 o2 = (st, o3) := ⟨_, _, rfl⟩
  simp only [e3] at h6 l3 ⊢
  clear h5
  have hq6 := h6.at (.head _)
  repeat' (first|refine r_a ?_|refine stp ?_|refine r_l ?_|refine r_c ?_|refine r_t fun _=>?_|refine r_f fun _=>?_|refine r_m (fun _=>?_) fun _=>?_|refine stq ?_|refine r_i ?_|refine r_x ?_)
  refine s_st rfl h6.fr hq6 fun s7 hU7 hq7 => ?_
  have h7 := h6.set0 hU7 hq7 (by decide)
  clear hq6 hq7 h6
  repeat' (first|refine r_a ?_|refine stp ?_|refine r_l ?_|refine r_c ?_|refine r_t fun _=>?_|refine r_f fun _=>?_|refine r_m (fun _=>?_) fun _=>?_|refine stq ?_|refine r_i ?_|refine r_x ?_)
  -- the lines
  refine s_k rfl (h7.num fun s8 h8 => ?_)
  have l4 := rdN_le 1024 o3
  obtain ⟨n2, o4, e4⟩ : ∃ n2 o4, rd (pNum 1024) 0 o3 = (n2, o4) := ⟨_, _, rfl⟩
  simp only [e4] at h8 l4 ⊢
  clear h7
  repeat' (first|refine r_a ?_|refine stp ?_|refine r_l ?_|refine r_c ?_|refine r_t fun _=>?_|refine r_f fun _=>?_|refine r_m (fun _=>?_) fun _=>?_|refine stq ?_|refine r_i ?_|refine r_x ?_)
  refine s_lpj (fun (i : Nat) φ s5 => ∃ v, Cel v 1 [v] ∧ Ls v 1 ((rdI (rd (pText 65536) []) i o4).1.map AV.str) ∧ DS s s5 r (rdI (rd (pText 65536) []) i o4).2 [(q, 27, [va, .int .i64 st, v, .nsl, .bool false, .nsl])] 9 1 v ((rdI (rd (pText 65536) []) i o4).1.map AV.str)
      ∧ At φ 3 (.ptr r 0) true ∧ At φ 4 (.ptr q 0) true ∧ At φ 5 (.int .i64 n2) true ∧ At φ 8 (.int .i64 i) true ∧ i ≤ n2) (fun i => n2 - i)
    (fun φ s5 => ∃ v, Ls v 1 ((rdI (rd (pText 65536) []) n2 o4).1.map AV.str) ∧ DS s s5 r (rdI (rd (pText 65536) []) n2 o4).2 [(q, 27, [va, .int .i64 st, v, .nsl, .bool false, .nsl])] 9 1 v ((rdI (rd (pText 65536) []) n2 o4).1.map AV.str)
      ∧ At φ 3 (.ptr r 0) true ∧ At φ 4 (.ptr q 0) true) 0 ?_ ?_ ?_
  · exact ⟨.nsl, inferInstance, Ls.nil, h8, at_of rfl, at_of rfl, at_of rfl, at_of rfl, by omega⟩
  · rintro i φ s5 ⟨v, hcel, hls, h5, g3, g4, g5, g6, hi⟩
    by_cases hlt : i < n2
    · have hlen := rdI_len (rd (pText 65536) []) i o4
      have hstep : rdI (rd (pText 65536) []) (i + 1) o4 = ((rdI (rd (pText 65536) []) i o4).1 ++ [((rd (pText 65536) []) (rdI (rd (pText 65536) []) i o4).2).1], ((rd (pText 65536) []) (rdI (rd (pText 65536) []) i o4).2).2) := rfl
      generalize hR1 : rdI (rd (pText 65536) []) i o4 = R at hls h5 hlen hstep
      obtain ⟨l, oi⟩ := R
      simp only at hls h5 hlen hstep
      have hq9 := h5.at (.head _)
      repeat' (first|refine r_a ?_|refine stp ?_|refine r_l ?_|refine r_c ?_|refine r_t fun _=>?_|refine r_f fun _=>?_|refine r_m (fun _=>?_) fun _=>?_|refine stq ?_|refine r_i ?_|refine r_x ?_)
      refine s_k rfl (h5.text fun s7 h7 => ?_)
      obtain ⟨tx, o2, e2⟩ : ∃ tx o2, rd (pText 65536) [] oi = (tx, o2) := ⟨_, _, rfl⟩
      simp only [e2] at h7 hstep ⊢
      replace hq9 := h7.at (.head _)
      repeat' (first|refine r_a ?_|refine stp ?_|refine r_l ?_|refine r_c ?_|refine r_t fun _=>?_|refine r_f fun _=>?_|refine r_m (fun _=>?_) fun _=>?_|refine stq ?_|refine r_i ?_|refine r_x ?_)
      refine d_mk1 rfl rfl h7 fun s11 t h11 => ?_
      replace hq9 := h11.at (.head _)
      repeat' (first|refine r_a ?_|refine stp ?_|refine r_l ?_|refine r_c ?_|refine r_t fun _=>?_|refine r_f fun _=>?_|refine r_m (fun _=>?_) fun _=>?_|refine stq ?_|refine r_i ?_|refine r_x ?_)
      refine d_app rfl h11 (ys := [AV.str tx]) rfl ?_ rfl fun v' s12 h12 hcel' hls' => ?_
      · simp only [List.length_map, hlen, List.length_cons, List.length_nil, maxL]; omega
      replace hq9 := h12.at (.head _)
      repeat' (first|refine r_a ?_|refine stp ?_|refine r_l ?_|refine r_c ?_|refine r_t fun _=>?_|refine r_f fun _=>?_|refine r_m (fun _=>?_) fun _=>?_|refine stq ?_|refine r_i ?_|refine r_x ?_)
      refine s_st rfl h12.fr hq9 fun s13 hU13 hq13 => ?_
      have h13 := h12.set0 hU13 hq13 (by decide)
      clear hq9 hq13
      repeat' (first|refine r_a ?_|refine stp ?_|refine r_l ?_|refine r_c ?_|refine r_t fun _=>?_|refine r_f fun _=>?_|refine r_m (fun _=>?_) fun _=>?_|refine stq ?_|refine r_i ?_|refine r_x ?_)
      refine ⟨i + 1, by omega, v', hcel', ?_, ?_, at_of rfl, at_of rfl, at_of rfl, at_of rfl, by omega⟩
      · rw [hstep]; simp only [List.map_append, List.map_cons, List.map_nil]; exact hls'
      · rw [hstep]; simp only [List.map_append, List.map_cons, List.map_nil]; exact h13
    · have : i = n2 := by omega
      subst this
      repeat' (first|refine r_a ?_|refine stp ?_|refine r_l ?_|refine r_c ?_|refine r_t fun _=>?_|refine r_f fun _=>?_|refine r_m (fun _=>?_) fun _=>?_|refine stq ?_|refine r_i ?_|refine r_x ?_)
      exact ⟨v, hls, h5, at_of rfl, at_of rfl⟩
  rintro φ s9 ⟨vb, hbb, h9, g3, g4⟩
  obtain ⟨xl, o5, e5⟩ : ∃ xl o5, rdI (rd (pText 65536) []) n2 o4 = (xl, o5) := ⟨_, _, rfl⟩
  simp only [e5] at h9 hbb
  have hcelb := hbb.cel
  clear h8
  replace h9 := h9.nil 47 2
  repeat' (first|refine r_a ?_|refine stp ?_|refine r_l ?_|refine r_c ?_|refine r_t fun _=>?_|refine r_f fun _=>?_|refine r_m (fun _=>?_) fun _=>?_|refine stq ?_|refine r_i ?_|refine r_x ?_)
  -- the parts
  refine s_k rfl (h9.num fun s10 h10 => ?_)
  have l6 := rdN_le 16 o5
  obtain ⟨n3, o6, e6⟩ : ∃ n3 o6, rd (pNum 16) 0 o5 = (n3, o6) := ⟨_, _, rfl⟩
  simp only [e6] at h10 l6 ⊢
  clear h9
  repeat' (first|refine r_a ?_|refine stp ?_|refine r_l ?_|refine r_c ?_|refine r_t fun _=>?_|refine r_f fun _=>?_|refine r_m (fun _=>?_) fun _=>?_|refine stq ?_|refine r_i ?_|refine r_x ?_)
  refine s_lpj (fun (i : Nat) φ s5 => ∃ v, Cel v 1 [v] ∧ Ls v 2 ((rdI (rdP 65536) i o6).1.map pp) ∧ DS s s5 r (rdI (rdP 65536) i o6).2 [(q, 27, [va, .int .i64 st, vb, v, .bool false, .nsl])] 47 2 v ((rdI (rdP 65536) i o6).1.map pp)
      ∧ At φ 3 (.ptr r 0) true ∧ At φ 4 (.ptr q 0) true ∧ At φ 5 (.int .i64 n3) true ∧ At φ 9 (.int .i64 i) true ∧ i ≤ n3) (fun i => n3 - i)
    (fun φ s5 => ∃ v, Ls v 2 ((rdI (rdP 65536) n3 o6).1.map pp) ∧ DS s s5 r (rdI (rdP 65536) n3 o6).2 [(q, 27, [va, .int .i64 st, vb, v, .bool false, .nsl])] 47 2 v ((rdI (rdP 65536) n3 o6).1.map pp)
      ∧ At φ 3 (.ptr r 0) true ∧ At φ 4 (.ptr q 0) true) 0 ?_ ?_ ?_
  · exact ⟨.nsl, inferInstance, Ls.nil, h10, at_of rfl, at_of rfl, at_of rfl, at_of rfl, by omega⟩
  · rintro i φ s5 ⟨v, hcel, hls, h5, g3, g4, g5, g6, hi⟩
    by_cases hlt : i < n3
    · have hlen := rdI_len (rdP 65536) i o6
      have hstep : rdI (rdP 65536) (i + 1) o6 = ((rdI (rdP 65536) i o6).1 ++ [((rdP 65536) (rdI (rdP 65536) i o6).2).1], ((rdP 65536) (rdI (rdP 65536) i o6).2).2) := rfl
      generalize hR1 : rdI (rdP 65536) i o6 = R at hls h5 hlen hstep
      obtain ⟨l, oi⟩ := R
      simp only at hls h5 hlen hstep
      simp only [rdP] at hstep
      have hq9 := h5.at (.head _)
      repeat' (first|refine r_a ?_|refine stp ?_|refine r_l ?_|refine r_c ?_|refine r_t fun _=>?_|refine r_f fun _=>?_|refine r_m (fun _=>?_) fun _=>?_|refine stq ?_|refine r_i ?_|refine r_x ?_)
      refine s_k rfl (h5.num fun s7 h7 => ?_)
      obtain ⟨tx, o2, e2⟩ : ∃ tx o2, rd (pNum 2) 0 oi = (tx, o2) := ⟨_, _, rfl⟩
      simp only [e2] at h7 hstep ⊢
      replace hq9 := h7.at (.head _)
      repeat' (first|refine r_a ?_|refine stp ?_|refine r_l ?_|refine r_c ?_|refine r_t fun _=>?_|refine r_f fun _=>?_|refine r_m (fun _=>?_) fun _=>?_|refine stq ?_|refine r_i ?_|refine r_x ?_)
      refine s_k rfl (h7.text fun s9 h9 => ?_)
      obtain ⟨ty, o3, e3⟩ : ∃ ty o3, rd (pText 65536) [] o2 = (ty, o3) := ⟨_, _, rfl⟩
      simp only [e3] at h9 hstep ⊢
      replace hq9 := h9.at (.head _)
      repeat' (first|refine r_a ?_|refine stp ?_|refine r_l ?_|refine r_c ?_|refine r_t fun _=>?_|refine r_f fun _=>?_|refine r_m (fun _=>?_) fun _=>?_|refine stq ?_|refine r_i ?_|refine r_x ?_)
      refine d_mk1 rfl rfl h9 fun s11 t h11 => ?_
      replace hq9 := h11.at (.head _)
      repeat' (first|refine r_a ?_|refine stp ?_|refine r_l ?_|refine r_c ?_|refine r_t fun _=>?_|refine r_f fun _=>?_|refine r_m (fun _=>?_) fun _=>?_|refine stq ?_|refine r_i ?_|refine r_x ?_)
      refine d_app rfl h11 (ys := [pp ((tx : Int), ty)]) rfl ?_ rfl fun v' s12 h12 hcel' hls' => ?_
      · simp only [List.length_map, hlen, List.length_cons, List.length_nil, maxL]; omega
      replace hq9 := h12.at (.head _)
      repeat' (first|refine r_a ?_|refine stp ?_|refine r_l ?_|refine r_c ?_|refine r_t fun _=>?_|refine r_f fun _=>?_|refine r_m (fun _=>?_) fun _=>?_|refine stq ?_|refine r_i ?_|refine r_x ?_)
      refine s_st rfl h12.fr hq9 fun s13 hU13 hq13 => ?_
      have h13 := h12.set0 hU13 hq13 (by decide)
      clear hq9 hq13
      repeat' (first|refine r_a ?_|refine stp ?_|refine r_l ?_|refine r_c ?_|refine r_t fun _=>?_|refine r_f fun _=>?_|refine r_m (fun _=>?_) fun _=>?_|refine stq ?_|refine r_i ?_|refine r_x ?_)
      refine ⟨i + 1, by omega, v', hcel', ?_, ?_, at_of rfl, at_of rfl, at_of rfl, at_of rfl, by omega⟩
      · rw [hstep]; simp only [List.map_append, List.map_cons, List.map_nil]; exact hls'
      · rw [hstep]; simp only [List.map_append, List.map_cons, List.map_nil]; exact h13
    · have : i = n3 := by omega
      subst this
      repeat' (first|refine r_a ?_|refine stp ?_|refine r_l ?_|refine r_c ?_|refine r_t fun _=>?_|refine r_f fun _=>?_|refine r_m (fun _=>?_) fun _=>?_|refine stq ?_|refine r_i ?_|refine r_x ?_)
      exact ⟨v, hls, h5, at_of rfl, at_of rfl⟩
  rintro φ s11 ⟨vc, hcc, h11, g3, g4⟩
  obtain ⟨xp, o7, e7⟩ : ∃ xp o7, rdI (rdP 65536) n3 o6 = (xp, o7) := ⟨_, _, rfl⟩
  simp only [e7] at h11 hcc
  have hcelc := hcc.cel
  clear h10
  replace h11 := h11.nil 3 1
  repeat' (first|refine r_a ?_|refine stp ?_|refine r_l ?_|refine r_c ?_|refine r_t fun _=>?_|refine r_f fun _=>?_|refine r_m (fun _=>?_) fun _=>?_|refine stq ?_|refine r_i ?_|refine r_x ?_)
  -- the flag
  refine s_k rfl (h11.flag fun s12 h12 => ?_)
  obtain ⟨fl, o8, e8⟩ : ∃ fl o8, rd pFlag false o7 = (fl, o8) := ⟨_, _, rfl⟩
  simp only [e8] at h12 ⊢
  clear h11
  have hq12 := h12.at (.head _)
  repeat' (first|refine r_a ?_|refine stp ?_|refine r_l ?_|refine r_c ?_|refine r_t fun _=>?_|refine r_f fun _=>?_|refine r_m (fun _=>?_) fun _=>?_|refine stq ?_|refine r_i ?_|refine r_x ?_)
  refine s_st rfl h12.fr hq12 fun s13 hU13 hq13 => ?_
  have h13 := h12.set0 hU13 hq13 (by decide)
  clear hq12 hq13 h12
  repeat' (first|refine r_a ?_|refine stp ?_|refine r_l ?_|refine r_c ?_|refine r_t fun _=>?_|refine r_f fun _=>?_|refine r_m (fun _=>?_) fun _=>?_|refine stq ?_|refine r_i ?_|refine r_x ?_)
  -- the children
  refine s_k rfl (h13.num fun s14 h14 => ?_)
  have l9 := rdN_le 8 o8
  obtain ⟨n4, o9, e9⟩ : ∃ n4 o9, rd (pNum 8) 0 o8 = (n4, o9) := ⟨_, _, rfl⟩
  simp only [e9] at h14 l9 ⊢
  clear h13
  repeat' (first|refine r_a ?_|refine stp ?_|refine r_l ?_|refine r_c ?_|refine r_t fun _=>?_|refine r_f fun _=>?_|refine r_m (fun _=>?_) fun _=>?_|refine stq ?_|refine r_i ?_|refine r_x ?_)
  refine s_lpj (fun (i : Nat) φ s5 => ∃ v, Cel v 1 [v] ∧ Ls v 1 ((rdI rdK i o9).1.map pk) ∧ DS s s5 r (rdI rdK i o9).2 [(q, 27, [va, .int .i64 st, vb, vc, .bool fl, v])] 3 1 v ((rdI rdK i o9).1.map pk)
      ∧ At φ 3 (.ptr r 0) true ∧ At φ 4 (.ptr q 0) true ∧ At φ 5 (.int .i64 n4) true ∧ At φ 11 (.int .i64 i) true ∧ i ≤ n4) (fun i => n4 - i)
    (fun φ s5 => ∃ v, Ls v 1 ((rdI rdK n4 o9).1.map pk) ∧ DS s s5 r (rdI rdK n4 o9).2 [(q, 27, [va, .int .i64 st, vb, vc, .bool fl, v])] 3 1 v ((rdI rdK n4 o9).1.map pk)
      ∧ At φ 3 (.ptr r 0) true ∧ At φ 4 (.ptr q 0) true) 0 ?_ ?_ ?_
  · exact ⟨.nsl, inferInstance, Ls.nil, h14, at_of rfl, at_of rfl, at_of rfl, at_of rfl, by omega⟩
  · rintro i φ s5 ⟨v, hcel, hls, h5, g3, g4, g5, g6, hi⟩
    by_cases hlt : i < n4
    · have hlen := rdI_len rdK i o9
      have hstep : rdI rdK (i + 1) o9 = ((rdI rdK i o9).1 ++ [(rdK (rdI rdK i o9).2).1], (rdK (rdI rdK i o9).2).2) := rfl
      generalize hR1 : rdI rdK i o9 = R at hls h5 hlen hstep
      obtain ⟨l, oi⟩ := R
      simp only at hls h5 hlen hstep
      simp only [rdK] at hstep
      have hq9 := h5.at (.head _)
      repeat' (first|refine r_a ?_|refine stp ?_|refine r_l ?_|refine r_c ?_|refine r_t fun _=>?_|refine r_f fun _=>?_|refine r_m (fun _=>?_) fun _=>?_|refine stq ?_|refine r_i ?_|refine r_x ?_)
      refine s_k rfl (h5.num fun s7 h7 => ?_)
      obtain ⟨tx, o2, e2⟩ : ∃ tx o2, rd (pNum 999999) 0 oi = (tx, o2) := ⟨_, _, rfl⟩
      simp only [e2] at h7 hstep ⊢
      replace hq9 := h7.at (.head _)
      repeat' (first|refine r_a ?_|refine stp ?_|refine r_l ?_|refine r_c ?_|refine r_t fun _=>?_|refine r_f fun _=>?_|refine r_m (fun _=>?_) fun _=>?_|refine stq ?_|refine r_i ?_|refine r_x ?_)
      refine d_mk1 rfl rfl h7 fun s11 t h11 => ?_
      replace hq9 := h11.at (.head _)
      repeat' (first|refine r_a ?_|refine stp ?_|refine r_l ?_|refine r_c ?_|refine r_t fun _=>?_|refine r_f fun _=>?_|refine r_m (fun _=>?_) fun _=>?_|refine stq ?_|refine r_i ?_|refine r_x ?_)
      refine d_app rfl h11 (ys := [pk (tx : Int)]) rfl ?_ rfl fun v' s12 h12 hcel' hls' => ?_
      · simp only [List.length_map, hlen, List.length_cons, List.length_nil, maxL]; omega
      replace hq9 := h12.at (.head _)
      repeat' (first|refine r_a ?_|refine stp ?_|refine r_l ?_|refine r_c ?_|refine r_t fun _=>?_|refine r_f fun _=>?_|refine r_m (fun _=>?_) fun _=>?_|refine stq ?_|refine r_i ?_|refine r_x ?_)
      refine s_st rfl h12.fr hq9 fun s13 hU13 hq13 => ?_
      have h13 := h12.set0 hU13 hq13 (by decide)
      clear hq9 hq13
      repeat' (first|refine r_a ?_|refine stp ?_|refine r_l ?_|refine r_c ?_|refine r_t fun _=>?_|refine r_f fun _=>?_|refine r_m (fun _=>?_) fun _=>?_|refine stq ?_|refine r_i ?_|refine r_x ?_)
      refine ⟨i + 1, by omega, v', hcel', ?_, ?_, at_of rfl, at_of rfl, at_of rfl, at_of rfl, by omega⟩
      · rw [hstep]; simp only [List.map_append, List.map_cons, List.map_nil]; exact hls'
      · rw [hstep]; simp only [List.map_append, List.map_cons, List.map_nil]; exact h13
    · have : i = n4 := by omega
      subst this
      repeat' (first|refine r_a ?_|refine stp ?_|refine r_l ?_|refine r_c ?_|refine r_t fun _=>?_|refine r_f fun _=>?_|refine r_m (fun _=>?_) fun _=>?_|refine stq ?_|refine r_i ?_|refine r_x ?_)
      exact ⟨v, hls, h5, at_of rfl, at_of rfl⟩
  rintro φ s15 ⟨vd, hdd, h15, g3, g4⟩
  obtain ⟨xk, o10, e10⟩ : ∃ xk o10, rdI rdK n4 o9 = (xk, o10) := ⟨_, _, rfl⟩
  simp only [e10] at h15 hdd
  clear h14
  have hdec : dec 65536 65536 65536 65536 (some bs) = (⟨xv, (st : Nat), xl, xp, fl, xk⟩, o10) := by
    simp only [dec, e1, e2, e3, e4, e5, e6, e7, e8, e9, e10]
  rw [hdec] at hk
  simp only at hk
  have hxl := rdI_len (rd (pText 65536) []) n2 o4
  rw [e5] at hxl
  simp only at hxl
  have hsum : sumL xl ≤ 1000000000 := by
    have := sumL_rdI 65536 n2 o4
    rw [e5] at this
    simp only at this
    omega
  repeat' (first|refine r_a ?_|refine stp ?_|refine r_l ?_|refine r_c ?_|refine r_t fun _=>?_|refine r_f fun _=>?_|refine r_m (fun _=>?_) fun _=>?_|refine stq ?_|refine r_i ?_|refine r_x ?_)
  refine s_k rfl (c_Close h15.fr h15.rs fun s16 e hU16 he => ?_)
  have h16 := h15.up0 hU16
  clear h15
  have hq16 := h16.at (.head _)
  repeat' (first|refine r_a ?_|refine stp ?_|refine r_l ?_|refine r_c ?_|refine r_t fun _=>?_|refine r_f fun _=>?_|refine r_m (fun _=>?_) fun _=>?_|refine stq ?_|refine r_i ?_|refine r_x ?_)
  · rename_i h0
    refine s_kg rfl (c_mcheck (x := ⟨xv, (st : Nat), xl, xp, fl, xk⟩) h16.fr ha hbb hcc hdd hsum (by simp only; omega) fun s17 hU17 => ?_)
    have h17 := h16.up0 hU17
    clear hq16 h16
    repeat' (first|refine r_a ?_|refine stp ?_|refine r_l ?_|refine r_c ?_|refine r_t fun _=>?_|refine r_f fun _=>?_|refine r_m (fun _=>?_) fun _=>?_|refine stq ?_|refine r_i ?_|refine r_x ?_)
    · rename_i hc0
      refine s_ret rfl ?_
      exact (hk _ (h17.up.out .none)).1 ⟨he.1 h0, hc0⟩
    · rename_i hc0
      refine s_ret rfl ?_
      exact (hk _ (h17.up.out .none)).2 (fun h => hc0 h.2)
  · rename_i hne
    refine s_ret rfl ?_
    exact (hk _ (h16.up.out .none)).2 (fun h => hne (he.2 h.1))
end Go.Am

namespace Go.Am
open T
attribute [local irreducible] Wp WpO Cal Rt Then Blocked Slc Lq Jq upd' φ0 lst

variable {kn : List AV → St → Option (AV × St)}

def Good (m1 m2 m3 m4 : Nat) (bs : List Nat) : Prop := (dec m1 m2 m3 m4 (some bs)).2 = some [] ∧ (dec m1 m2 m3 m4 (some bs)).1.check = 0

theorem take_min (bs : List Nat) : bs.take (min bs.length 300) = bs.take 300 := by
  rcases Nat.le_total bs.length 300 with h | h
  · rw [Nat.min_eq_left h, List.take_length, List.take_of_length_le h]
  · rw [Nat.min_eq_right h]

set_option maxHeartbeats 4000000 in
theorem c_ShellDecodes {s : St} {bs : List Nat} {k : AV → St → Prop} (hF : s.Fr) (hkn : ∀ s', Up s s' [] → kn [] s' = some (.bool true, s')) (h256 : B256 (bs.take 300))
    (law1 : ¬ Good 16 256 16384 1024 (bs.take 300) → ¬ Good 65536 65536 65536 65536 (bs.take 300)) (law2 : Good 16 256 16384 1024 (bs.take 300) → Good 65536 65536 65536 65536 (bs.take 300) ∧ (dec 16 256 16384 1024 (some (bs.take 300))).1.enc = bs.take 300 ∧ (dec 16 256 16384 1024 (some (bs.take 300))).1.ok)
    (hk : ∀ s', Up s s' [] → k (.bool true) s') : Cal (EV kn) 4 [.str bs] s k := by
  refine cal_fn rfl (f := 4) rfl rfl ?_
  repeat' (first|refine r_a ?_|refine stp ?_|refine r_l ?_|refine r_c ?_|refine r_t fun _=>?_|refine r_f fun _=>?_|refine r_m (fun _=>?_) fun _=>?_|refine stq ?_|refine r_i ?_|refine r_x ?_)
  refine s_sst rfl (by omega) ?_
  rw [show (min (bs.length : Int) 300).toNat = min bs.length 300 by omega, take_min]
  have hlen : (bs.take 300).length ≤ 300 := by rw [List.length_take]; omega
  generalize bs.take 300 = ts at h256 law1 law2 hlen ⊢
  repeat' (first|refine r_a ?_|refine stp ?_|refine r_l ?_|refine r_c ?_|refine r_t fun _=>?_|refine r_f fun _=>?_|refine r_m (fun _=>?_) fun _=>?_|refine stq ?_|refine r_i ?_|refine r_x ?_)
  refine s_k rfl (c_Decode hF (by omega) h256 (fun s1 a b c d hU1 g1 g2 ha hb hc hd => ?_) (fun s1 hU1 hng => ?_))
  · obtain ⟨hg2, henc, hok⟩ := law2 ⟨g1, g2⟩
    have hgood := Sh.good_of g2
    generalize (dec 16 256 16384 1024 (some ts)).1 = x at g2 ha hb hc hd henc hok hgood ⊢
    have hcel1 := ha.cel
    have hcel2 := hb.cel
    have hcel3 := hc.cel
    have hcel4 := hd.cel
    have hsl := hgood.sl
    have hnl := hgood.nl
    repeat' (first|refine r_a ?_|refine stp ?_|refine r_l ?_|refine r_c ?_|refine r_t fun _=>?_|refine r_f fun _=>?_|refine r_m (fun _=>?_) fun _=>?_|refine stq ?_|refine r_i ?_|refine r_x ?_)
    refine s_al hU1.fr fun s2 q hU2 hq hql => ?_
    repeat' (first|refine r_a ?_|refine stp ?_|refine r_l ?_|refine r_c ?_|refine r_t fun _=>?_|refine r_f fun _=>?_|refine r_m (fun _=>?_) fun _=>?_|refine stq ?_|refine r_i ?_|refine r_x ?_)
    refine s_st rfl hU2.fr hq fun s3 hU3 hq3 => ?_
    have hUs := (hU1.then0 hU2).own1 hU3 (Nat.le_trans hU1.le hql)
    clear hq
    repeat' (first|refine r_a ?_|refine stp ?_|refine r_l ?_|refine r_c ?_|refine r_t fun _=>?_|refine r_f fun _=>?_|refine r_m (fun _=>?_) fun _=>?_|refine stq ?_|refine r_i ?_|refine r_x ?_)
    refine s_k rfl (cal_sp rfl (hkn s3 hUs) ?_)
    repeat' (first|refine r_a ?_|refine stp ?_|refine r_l ?_|refine r_c ?_|refine r_t fun _=>?_|refine r_f fun _=>?_|refine r_m (fun _=>?_) fun _=>?_|refine stq ?_|refine r_i ?_|refine r_x ?_)
    refine s_k rfl (c_Encode hUs.fr ha hb hc hd hok (by omega) (by omega) (fun s4 hU4 hne => absurd g2 hne) fun s4 hU4 _ => ?_)
    have hU5 := hUs.then0 hU4
    rw [henc]
    repeat' (first|refine r_a ?_|refine stp ?_|refine r_l ?_|refine r_c ?_|refine r_t fun _=>?_|refine r_f fun _=>?_|refine r_m (fun _=>?_) fun _=>?_|refine stq ?_|refine r_i ?_|refine r_x ?_)
    · refine s_kg rfl (c_parses hU5.fr (by omega) h256 fun s6 hU6 => ⟨fun _ => ?_, fun h => absurd hg2 h⟩)
      repeat' (first|refine r_a ?_|refine stp ?_|refine r_l ?_|refine r_c ?_|refine r_t fun _=>?_|refine r_f fun _=>?_|refine r_m (fun _=>?_) fun _=>?_|refine stq ?_|refine r_i ?_|refine r_x ?_)
      refine s_ret rfl ?_
      exact hk _ ((hU5.then0 hU6).out .none)
    · rename_i h; exact absurd rfl h
  · have hcel : Cel .nsl 1 [.nsl] := inferInstance
    have hng2 := law1 hng
    repeat' (first|refine r_a ?_|refine stp ?_|refine r_l ?_|refine r_c ?_|refine r_t fun _=>?_|refine r_f fun _=>?_|refine r_m (fun _=>?_) fun _=>?_|refine stq ?_|refine r_i ?_|refine r_x ?_)
    refine s_al hU1.fr fun s2 q hU2 hq hql => ?_
    repeat' (first|refine r_a ?_|refine stp ?_|refine r_l ?_|refine r_c ?_|refine r_t fun _=>?_|refine r_f fun _=>?_|refine r_m (fun _=>?_) fun _=>?_|refine stq ?_|refine r_i ?_|refine r_x ?_)
    refine s_st rfl hU2.fr hq fun s3 hU3 hq3 => ?_
    have hUs := (hU1.then0 hU2).own1 hU3 (Nat.le_trans hU1.le hql)
    clear hq
    repeat' (first|refine r_a ?_|refine stp ?_|refine r_l ?_|refine r_c ?_|refine r_t fun _=>?_|refine r_f fun _=>?_|refine r_m (fun _=>?_) fun _=>?_|refine stq ?_|refine r_i ?_|refine r_x ?_)
    refine s_k rfl (cal_sp rfl (hkn s3 hUs) ?_)
    repeat' (first|refine r_a ?_|refine stp ?_|refine r_l ?_|refine r_c ?_|refine r_t fun _=>?_|refine r_f fun _=>?_|refine r_m (fun _=>?_) fun _=>?_|refine stq ?_|refine r_i ?_|refine r_x ?_)
    refine s_kg rfl (c_Equal (x := Sh.zero) (y := Sh.zero) hUs.fr Ls.nil Ls.nil Ls.nil Ls.nil Ls.nil Ls.nil Ls.nil Ls.nil (by decide) (by decide) (by decide) (by decide) fun s4 hU4 => ⟨fun _ => ?_, fun h => absurd rfl h⟩)
    have hU5 := hUs.then0 hU4
    repeat' (first|refine r_a ?_|refine stp ?_|refine r_l ?_|refine r_c ?_|refine r_t fun _=>?_|refine r_f fun _=>?_|refine r_m (fun _=>?_) fun _=>?_|refine stq ?_|refine r_i ?_|refine r_x ?_)
    refine s_kg rfl (c_parses hU5.fr (by omega) h256 fun s6 hU6 => ⟨fun h => absurd h hng2, fun _ => ?_⟩)
    repeat' (first|refine r_a ?_|refine stp ?_|refine r_l ?_|refine r_c ?_|refine r_t fun _=>?_|refine r_f fun _=>?_|refine r_m (fun _=>?_) fun _=>?_|refine stq ?_|refine r_i ?_|refine r_x ?_)
    refine s_ret rfl ?_
    exact hk _ ((hU5.then0 hU6).out .none)
end Go.Am

namespace Go.Am

theorem cnt_enc : ∀ (b : List Nat) (m : Nat), cnt b m < m → cnt b m < b.length → (0 < cnt b m → b.getD (cnt b m) 0 ≠ 0) → B256 b →
    encN (val (b.take (cnt b m + 1))) = b.take (cnt b m + 1) ∧ (b.getD (cnt b m) 0 ≠ 0 → 1 ≤ val (b.take (cnt b m + 1)))
  | [], m, _, h, _, _ => by simp at h
  | c :: r, 0, h, _, _, _ => by simp at h
  | c :: r, m + 1, h1, h2, h3, h4 => by
    have hc : c < 256 := h4 c (by simp)
    by_cases hge : 128 ≤ c
    · have e : cnt (c :: r) (m + 1) = cnt r m + 1 := by simp only [cnt, if_pos hge]
      rw [e] at h1 h2 h3 ⊢
      rw [List.length_cons] at h2
      have h3' := h3 (by omega)
      rw [List.getD_cons_succ] at h3' ⊢
      obtain ⟨i1, i2⟩ := cnt_enc r m (by omega) (by omega) (fun _ => h3') (fun x hx => h4 x (by simp [hx]))
      have i2 := i2 h3'
      rw [List.take_succ_cons, val, encN_ge (by omega)]
      refine ⟨?_, fun _ => by omega⟩
      rw [show (c % 128 + 128 * val (r.take (cnt r m + 1))) / 128 = val (r.take (cnt r m + 1)) by omega, i1]
      congr 1; omega
    · have e : cnt (c :: r) (m + 1) = 0 := by simp only [cnt, if_neg hge]
      rw [e]
      simp only [Nat.zero_add, List.take_succ_cons, List.take_zero, val, List.getD_cons_zero]
      rw [encN_small (by omega)]
      exact ⟨by congr 1; omega, fun h => by omega⟩

theorem parseN_enc {b : List Nat} {u n : Nat} (h : parseN b = some (u, n)) (hb : B256 b) : b = encN u ++ b.drop n := by
  have hle := cnt_le b 9
  unfold parseN at h
  split at h
  · cases h
  · rename_i hn
    cases h
    have k1 : cnt b 9 < b.length := by
      by_cases e : cnt b 9 = b.length
      · exact absurd (.inr (.inl e)) hn
      · omega
    have k2 : cnt b 9 ≠ 9 := fun e => hn (.inl e)
    rw [(cnt_enc b 9 (by omega) k1 (fun h0 e => hn (.inr (.inr ⟨h0, e⟩))) hb).1, List.take_append_drop]

theorem pNum_enc {most : Nat} {b : List Nat} {u n : Nat} (h : pNum most b = some (u, n)) (hb : B256 b) : b = encN u ++ b.drop n := by
  unfold pNum at h
  cases hp : parseN b with
  | none => rw [hp] at h; cases h
  | some q =>
    obtain ⟨x, y⟩ := q
    rw [hp] at h; simp only at h
    split at h
    · cases h; exact parseN_enc hp hb
    · cases h
theorem pText_enc {most : Nat} {b t : List Nat} {n : Nat} (h : pText most b = some (t, n)) (hb : B256 b) : b = encT t ++ b.drop n := by
  unfold pText at h
  cases hp : parseN b with
  | none => rw [hp] at h; cases h
  | some q =>
    obtain ⟨x, y⟩ := q
    rw [hp] at h; simp only at h
    split at h
    · rename_i hc
      cases h
      have e := parseN_enc hp hb
      have hl : ((b.drop y).take x).length = x := by rw [List.length_take, List.length_drop]; omega
      rw [encT, hl, List.append_assoc, ← List.drop_drop, List.take_append_drop]
      exact e
    · cases h
theorem pFlag_enc {b : List Nat} {f : Bool} {n : Nat} (h : pFlag b = some (f, n)) : b = [if f then 1 else 0] ++ b.drop n := by
  unfold pFlag at h
  split at h
  · rename_i c r
    split at h
    · cases h
      simp only [List.drop_succ_cons, List.drop_zero, List.cons_append, List.nil_append]
      congr 1
      by_cases h1 : c = 1
      · simp [h1]
      · simp [h1]; omega
    · cases h
  · cases h
theorem pText_mono {m m' : Nat} {b t : List Nat} {n : Nat} (h : pText m b = some (t, n)) (ht : t.length ≤ m') : pText m' b = some (t, n) := by
  unfold pText at h ⊢
  cases hp : parseN b with
  | none => rw [hp] at h; cases h
  | some q =>
    obtain ⟨x, y⟩ := q
    rw [hp] at h; simp only at h ⊢
    split at h
    · rename_i hc
      have hx : x ≤ m' := by
        have e : t = (b.drop y).take x := by cases h; rfl
        rw [e, List.length_take, List.length_drop] at ht
        omega
      rw [if_pos ⟨hx, hc.2⟩]; exact h
    · cases h

/-- What has been read with success. -/
theorem rd_some {α : Type} {p : List Nat → Option (α × Nat)} {z v : α} {o : Option (List Nat)} {r : List Nat} (h : rd p z o = (v, some r)) : ∃ b n, o = some b ∧ p b = some (v, n) ∧ r = b.drop n := by
  cases o with
  | none => simp [rd] at h
  | some b =>
    simp only [rd] at h
    split at h
    · simp at h
    · rename_i v' n hp
      simp only [Prod.mk.injEq, Option.some.injEq] at h
      exact ⟨b, n, rfl, by rw [hp, h.1], h.2.symm⟩
theorem rd_of {α : Type} {p : List Nat → Option (α × Nat)} {z v : α} {b : List Nat} {n : Nat} (h : p b = some (v, n)) : rd p z (some b) = (v, some (b.drop n)) := by simp only [rd, h]

/-- A reader that reads what an encoder writes. -/
def RInv {α : Type} (f : Option (List Nat) → α × Option (List Nat)) (e : α → List Nat) : Prop := ∀ o v r, f o = (v, some r) → ∃ b, o = some b ∧ (B256 b → b = e v ++ r)
/-- A reader under other limits. -/
def RSub {α : Type} (f g : Option (List Nat) → α × Option (List Nat)) (P : α → Prop) : Prop := ∀ o v r, f o = (v, some r) → P v → g o = (v, some r)

theorem B256.right {a b : List Nat} (h : B256 (a ++ b)) : B256 b := fun c hc => h c (List.mem_append_right _ hc)
theorem B256.left {a b : List Nat} (h : B256 (a ++ b)) : B256 a := fun c hc => h c (List.mem_append_left _ hc)

theorem inv_num (m : Nat) : RInv (rd (pNum m) 0) encN := fun o v r h => by
  obtain ⟨b, n, h1, h2, h3⟩ := rd_some h
  exact ⟨b, h1, fun hb => by rw [h3]; exact pNum_enc h2 hb⟩
theorem inv_text (m : Nat) : RInv (rd (pText m) []) encT := fun o v r h => by
  obtain ⟨b, n, h1, h2, h3⟩ := rd_some h
  exact ⟨b, h1, fun hb => by rw [h3]; exact pText_enc h2 hb⟩
theorem inv_flag : RInv (rd pFlag false) (fun f => [if f then 1 else 0]) := fun o v r h => by
  obtain ⟨b, n, h1, h2, h3⟩ := rd_some h
  exact ⟨b, h1, fun _ => by rw [h3]; exact pFlag_enc h2⟩
theorem inv_two {α β : Type} {f : Option (List Nat) → α × Option (List Nat)} {g : Option (List Nat) → β × Option (List Nat)} {e : α → List Nat} {e' : β → List Nat} (h : RInv f e) (h' : RInv g e') :
    RInv (fun o => (((f o).1, (g (f o).2).1), (g (f o).2).2)) (fun x => e x.1 ++ e' x.2) := fun o v r hh => by
  obtain ⟨v1, v2⟩ := v
  simp only [Prod.mk.injEq] at hh
  obtain ⟨⟨e1, e2⟩, e3⟩ := hh
  obtain ⟨b2, k1, k2⟩ := h' (f o).2 v2 r (by rw [← e2, ← e3])
  obtain ⟨b1, k3, k4⟩ := h o v1 b2 (by rw [← e1, ← k1])
  refine ⟨b1, k3, fun hb => ?_⟩
  have q1 := k4 hb
  rw [q1] at hb
  have q2 := k2 hb.right
  rw [q1, q2, List.append_assoc]
theorem inv_V (m1 m2 : Nat) : RInv (rdV m1 m2) encV := inv_two (inv_text m1) (inv_text m2)
theorem inv_P (m : Nat) : RInv (rdP m) encP := fun o v r h => by
  obtain ⟨v1, v2⟩ := v
  simp only [rdP, Prod.mk.injEq] at h
  obtain ⟨⟨e1, e2⟩, e3⟩ := h
  obtain ⟨b, k1, k2⟩ := inv_two (inv_num 2) (inv_text m) o ((rd (pNum 2) 0 o).1, v2) r (by simp only [e2, e3])
  refine ⟨b, k1, fun hb => ?_⟩
  have := k2 hb
  simp only [encP, ← e1, Int.toNat_natCast]
  exact this
theorem inv_K : RInv rdK encK := fun o v r h => by
  simp only [rdK, Prod.mk.injEq] at h
  obtain ⟨b, k1, k2⟩ := inv_num 999999 o (rd (pNum 999999) 0 o).1 r (by rw [← h.2])
  refine ⟨b, k1, fun hb => ?_⟩
  have := k2 hb
  simp only [encK, ← h.1, Int.toNat_natCast]
  exact this
theorem inv_I {α : Type} {f : Option (List Nat) → α × Option (List Nat)} {e : α → List Nat} (h : RInv f e) : ∀ (n : Nat) (o : Option (List Nat)) (l : List α) (r : List Nat), rdI f n o = (l, some r) → ∃ b, o = some b ∧ (B256 b → b = l.flatMap e ++ r)
  | 0, o, l, r, hh => by
    simp only [rdI, Prod.mk.injEq] at hh
    exact ⟨r, hh.2, fun _ => by rw [← hh.1]; rfl⟩
  | n + 1, o, l, r, hh => by
    simp only [rdI, Prod.mk.injEq] at hh
    obtain ⟨b2, k1, k2⟩ := h (rdI f n o).2 (f (rdI f n o).2).1 r (by rw [← hh.2])
    obtain ⟨b1, k3, k4⟩ := inv_I h n o (rdI f n o).1 b2 (by rw [← k1])
    refine ⟨b1, k3, fun hb => ?_⟩
    have q1 := k4 hb
    rw [q1] at hb
    have q2 := k2 hb.right
    rw [← hh.1, List.flatMap_append, List.append_assoc, q1]
    congr 1
    rw [List.flatMap_cons, List.flatMap_nil, List.append_nil]
    exact q2

theorem sub_text {m m' : Nat} : RSub (rd (pText m) []) (rd (pText m') []) (fun t => t.length ≤ m') := fun o v r h hp => by
  obtain ⟨b, n, h1, h2, h3⟩ := rd_some h
  subst h1; subst h3
  exact rd_of (pText_mono h2 hp)
theorem sub_V {m1 m2 m1' m2' : Nat} : RSub (rdV m1 m2) (rdV m1' m2') (fun y => y.1.length ≤ m1' ∧ y.2.length ≤ m2') := fun o v r h hp => by
  obtain ⟨v1, v2⟩ := v
  simp only [rdV, Prod.mk.injEq] at h ⊢
  obtain ⟨⟨e1, e2⟩, e3⟩ := h
  obtain ⟨b2, k1, _⟩ := inv_text m2 _ v2 r (Prod.ext e2 e3)
  have q1 := sub_text (m := m1) (m' := m1') o v1 b2 (Prod.ext e1 k1) hp.1
  have q2 := sub_text (m := m2) (m' := m2') _ v2 r (Prod.ext e2 e3) hp.2
  rw [k1] at q2
  rw [q1]
  simp only [q2, and_self]
theorem sub_P {m m' : Nat} : RSub (rdP m) (rdP m') (fun y => y.2.length ≤ m') := fun o v r h hp => by
  obtain ⟨v1, v2⟩ := v
  simp only [rdP, Prod.mk.injEq] at h ⊢
  obtain ⟨⟨e1, e2⟩, e3⟩ := h
  have q2 := sub_text (m := m) (m' := m') _ v2 r (Prod.ext e2 e3) hp
  rw [q2]
  exact ⟨⟨e1, rfl⟩, rfl⟩
theorem sub_I {α : Type} {f g : Option (List Nat) → α × Option (List Nat)} {P : α → Prop} {e : α → List Nat} (h : RSub f g P) (hi : RInv f e) : ∀ (n : Nat) (o : Option (List Nat)) (l : List α) (r : List Nat), rdI f n o = (l, some r) → (∀ y ∈ l, P y) → rdI g n o = (l, some r)
  | 0, o, l, r, hh, _ => hh
  | n + 1, o, l, r, hh, hp => by
    simp only [rdI, Prod.mk.injEq] at hh ⊢
    obtain ⟨b2, k1, _⟩ := hi (rdI f n o).2 (f (rdI f n o).2).1 r (by rw [← hh.2])
    rw [← hh.1] at hp
    have q1 := sub_I h hi n o (rdI f n o).1 b2 (by rw [← k1]) (fun y hy => hp y (List.mem_append_left _ hy))
    have q2 := h (rdI f n o).2 (f (rdI f n o).2).1 r (by rw [← hh.2]) (hp _ (by simp))
    rw [q1]
    simp only
    rw [← k1, q2, hh.1.symm]
    exact ⟨rfl, rfl⟩

/-- The steps of reading a state. -/
structure Dec (m1 m2 m3 m4 : Nat) (bs : List Nat) (x : Sh) (nv nl np nk : Nat) (st : Nat) (b1 b2 b3 b4 b5 b6 b7 b8 b9 : List Nat) : Prop where
  e1 : rd (pNum 32) 0 (some bs) = (nv, some b1)
  e2 : rdI (rdV m1 m2) nv (some b1) = (x.vars, some b2)
  e3 : rd (pNum 999) 0 (some b2) = (st, some b3)
  es : x.status = (st : Int)
  e4 : rd (pNum 1024) 0 (some b3) = (nl, some b4)
  e5 : rdI (rd (pText m3) []) nl (some b4) = (x.lines, some b5)
  e6 : rd (pNum 16) 0 (some b5) = (np, some b6)
  e7 : rdI (rdP m4) np (some b6) = (x.parts, some b7)
  e8 : rd pFlag false (some b7) = (x.bg, some b8)
  e9 : rd (pNum 8) 0 (some b8) = (nk, some b9)
  e10 : rdI rdK nk (some b9) = (x.kids, some [])

theorem dec_of {m1 m2 m3 m4 : Nat} {bs : List Nat} {x : Sh} {nv nl np nk st : Nat} {b1 b2 b3 b4 b5 b6 b7 b8 b9 : List Nat} (h : Dec m1 m2 m3 m4 bs x nv nl np nk st b1 b2 b3 b4 b5 b6 b7 b8 b9) : dec m1 m2 m3 m4 (some bs) = (x, some []) := by
  obtain ⟨xv, xs, xl, xp, xb, xk⟩ := x
  have hs := h.es
  simp only at hs
  subst hs
  simp only [dec, h.e1, h.e2, h.e3, h.e4, h.e5, h.e6, h.e7, h.e8, h.e9, h.e10]

theorem of_dec {m1 m2 m3 m4 : Nat} {bs : List Nat} (h : (dec m1 m2 m3 m4 (some bs)).2 = some []) : ∃ nv nl np nk st b1 b2 b3 b4 b5 b6 b7 b8 b9, Dec m1 m2 m3 m4 bs (dec m1 m2 m3 m4 (some bs)).1 nv nl np nk st b1 b2 b3 b4 b5 b6 b7 b8 b9 := by
  obtain ⟨n1, o1, e1⟩ : ∃ n1 o1, rd (pNum 32) 0 (some bs) = (n1, o1) := ⟨_, _, rfl⟩
  obtain ⟨xv, o2, e2⟩ : ∃ xv o2, rdI (rdV m1 m2) n1 o1 = (xv, o2) := ⟨_, _, rfl⟩
  obtain ⟨st, o3, e3⟩ : ∃ st o3, rd (pNum 999) 0 o2 = (st, o3) := ⟨_, _, rfl⟩
  obtain ⟨n2, o4, e4⟩ : ∃ n2 o4, rd (pNum 1024) 0 o3 = (n2, o4) := ⟨_, _, rfl⟩
  obtain ⟨xl, o5, e5⟩ : ∃ xl o5, rdI (rd (pText m3) []) n2 o4 = (xl, o5) := ⟨_, _, rfl⟩
  obtain ⟨n3, o6, e6⟩ : ∃ n3 o6, rd (pNum 16) 0 o5 = (n3, o6) := ⟨_, _, rfl⟩
  obtain ⟨xp, o7, e7⟩ : ∃ xp o7, rdI (rdP m4) n3 o6 = (xp, o7) := ⟨_, _, rfl⟩
  obtain ⟨fl, o8, e8⟩ : ∃ fl o8, rd pFlag false o7 = (fl, o8) := ⟨_, _, rfl⟩
  obtain ⟨n4, o9, e9⟩ : ∃ n4 o9, rd (pNum 8) 0 o8 = (n4, o9) := ⟨_, _, rfl⟩
  obtain ⟨xk, o10, e10⟩ : ∃ xk o10, rdI rdK n4 o9 = (xk, o10) := ⟨_, _, rfl⟩
  have hdec : dec m1 m2 m3 m4 (some bs) = (⟨xv, (st : Nat), xl, xp, fl, xk⟩, o10) := by
    simp only [dec, e1, e2, e3, e4, e5, e6, e7, e8, e9, e10]
  rw [hdec] at h ⊢
  simp only at h
  subst h
  obtain ⟨b9, rfl, _⟩ := inv_I inv_K _ _ _ _ e10
  obtain ⟨b8, rfl, _⟩ := inv_num _ _ _ _ e9
  obtain ⟨b7, rfl, _⟩ := inv_flag _ _ _ e8
  obtain ⟨b6, rfl, _⟩ := inv_I (inv_P _) _ _ _ _ e7
  obtain ⟨b5, rfl, _⟩ := inv_num _ _ _ _ e6
  obtain ⟨b4, rfl, _⟩ := inv_I (inv_text _) _ _ _ _ e5
  obtain ⟨b3, rfl, _⟩ := inv_num _ _ _ _ e4
  obtain ⟨b2, rfl, _⟩ := inv_num _ _ _ _ e3
  obtain ⟨b1, rfl, _⟩ := inv_I (inv_V _ _) _ _ _ _ e2
  exact ⟨n1, n2, n3, n4, st, b1, b2, b3, b4, b5, b6, b7, b8, b9, e1, e2, e3, rfl, e4, e5, e6, e7, e8, e9, e10⟩

theorem Dec.sub {m1 m2 m3 m4 m1' m2' m3' m4' : Nat} {bs : List Nat} {x : Sh} {nv nl np nk st : Nat} {b1 b2 b3 b4 b5 b6 b7 b8 b9 : List Nat} (h : Dec m1 m2 m3 m4 bs x nv nl np nk st b1 b2 b3 b4 b5 b6 b7 b8 b9)
    (hv : ∀ y ∈ x.vars, y.1.length ≤ m1' ∧ y.2.length ≤ m2') (hl : ∀ y ∈ x.lines, y.length ≤ m3') (hp : ∀ y ∈ x.parts, y.2.length ≤ m4') : Dec m1' m2' m3' m4' bs x nv nl np nk st b1 b2 b3 b4 b5 b6 b7 b8 b9 :=
  ⟨h.e1, sub_I sub_V (inv_V _ _) _ _ _ _ h.e2 hv, h.e3, h.es, h.e4, sub_I sub_text (inv_text _) _ _ _ _ h.e5 hl, h.e6, sub_I sub_P (inv_P _) _ _ _ _ h.e7 hp, h.e8, h.e9, h.e10⟩

theorem Dec.enc {m1 m2 m3 m4 : Nat} {bs : List Nat} {x : Sh} {nv nl np nk st : Nat} {b1 b2 b3 b4 b5 b6 b7 b8 b9 : List Nat} (h : Dec m1 m2 m3 m4 bs x nv nl np nk st b1 b2 b3 b4 b5 b6 b7 b8 b9) (hb : B256 bs) : x.enc = bs := by
  obtain ⟨_, k, q1⟩ := inv_num _ _ _ _ h.e1; cases k
  have q1 := q1 hb; rw [q1] at hb
  obtain ⟨_, k, q2⟩ := inv_I (inv_V _ _) _ _ _ _ h.e2; cases k
  have q2 := q2 hb.right; rw [q2] at hb
  obtain ⟨_, k, q3⟩ := inv_num _ _ _ _ h.e3; cases k
  have q3 := q3 hb.right.right; rw [q3] at hb
  obtain ⟨_, k, q4⟩ := inv_num _ _ _ _ h.e4; cases k
  have q4 := q4 hb.right.right.right; rw [q4] at hb
  obtain ⟨_, k, q5⟩ := inv_I (inv_text _) _ _ _ _ h.e5; cases k
  have q5 := q5 hb.right.right.right.right; rw [q5] at hb
  obtain ⟨_, k, q6⟩ := inv_num _ _ _ _ h.e6; cases k
  have q6 := q6 hb.right.right.right.right.right; rw [q6] at hb
  obtain ⟨_, k, q7⟩ := inv_I (inv_P _) _ _ _ _ h.e7; cases k
  have q7 := q7 hb.right.right.right.right.right.right; rw [q7] at hb
  obtain ⟨_, k, q8⟩ := inv_flag _ _ _ h.e8; cases k
  have q8 := q8 hb.right.right.right.right.right.right.right; rw [q8] at hb
  obtain ⟨_, k, q9⟩ := inv_num _ _ _ _ h.e9; cases k
  have q9 := q9 hb.right.right.right.right.right.right.right.right; rw [q9] at hb
  obtain ⟨_, k, q10⟩ := inv_I inv_K _ _ _ _ h.e10; cases k
  have q10 := q10 hb.right.right.right.right.right.right.right.right.right
  have n1 := rdI_len (rdV m1 m2) nv (some b1); rw [h.e2] at n1; simp only at n1
  have n2 := rdI_len (rd (pText m3) []) nl (some b4); rw [h.e5] at n2; simp only at n2
  have n3 := rdI_len (rdP m4) np (some b6); rw [h.e7] at n3; simp only at n3
  have n4 := rdI_len rdK nk (some b9); rw [h.e10] at n4; simp only at n4
  rw [Sh.enc, n1, n2, n3, n4, h.es, Int.toNat_natCast]
  rw [q1, q2, q3, q4, q5, q6, q7, q8, q9, q10]
  simp only [List.append_assoc, List.append_nil]

theorem ok_of {x : Sh} (h : B256 x.enc) : x.ok := by
  unfold Sh.enc at h
  refine ⟨fun y hy => ⟨fun c hc => h c ?_, fun c hc => h c ?_⟩, fun y hy c hc => h c ?_, fun y hy c hc => h c ?_⟩
  · have : c ∈ x.vars.flatMap encV := List.mem_flatMap.2 ⟨y, hy, by simp [encV, encT, hc]⟩
    simp [this]
  · have : c ∈ x.vars.flatMap encV := List.mem_flatMap.2 ⟨y, hy, by simp [encV, encT, hc]⟩
    simp [this]
  · have : c ∈ x.lines.flatMap encT := List.mem_flatMap.2 ⟨y, hy, by simp [encT, hc]⟩
    simp [this]
  · have : c ∈ x.parts.flatMap encP := List.mem_flatMap.2 ⟨y, hy, by simp [encP, encT, hc]⟩
    simp [this]

theorem law_small {bs : List Nat} (h : Good 16 256 16384 1024 bs) (hb : B256 bs) : Good 65536 65536 65536 65536 bs ∧ (dec 16 256 16384 1024 (some bs)).1.enc = bs ∧ (dec 16 256 16384 1024 (some bs)).1.ok := by
  obtain ⟨nv, nl, np, nk, st, b1, b2, b3, b4, b5, b6, b7, b8, b9, hd⟩ := of_dec h.1
  have hg := Sh.good_of h.2
  have hc := h.2
  generalize (dec 16 256 16384 1024 (some bs)).1 = x at hd hg hc ⊢
  have h2 := dec_of (hd.sub (m1' := 65536) (m2' := 65536) (m3' := 65536) (m4' := 65536) (fun y hy => by
    have := hg.v y hy; have := isVar_len this.1; omega) (fun y hy => by have := mem_sumL hy; have := hg.sl; omega) (fun y hy => by have := hg.p y hy; omega))
  have he := hd.enc hb
  refine ⟨⟨by rw [h2], by rw [h2]; exact hc⟩, he, ok_of (by rw [he]; exact hb)⟩
theorem law_large {bs : List Nat} (h : Good 65536 65536 65536 65536 bs) : Good 16 256 16384 1024 bs := by
  obtain ⟨nv, nl, np, nk, st, b1, b2, b3, b4, b5, b6, b7, b8, b9, hd⟩ := of_dec h.1
  have hg := Sh.good_of h.2
  have hc := h.2
  generalize (dec 65536 65536 65536 65536 (some bs)).1 = x at hd hg hc
  have h2 := dec_of (hd.sub (m1' := 16) (m2' := 256) (m3' := 16384) (m4' := 1024) (fun y hy => by
    have := hg.v y hy; have := isVar_len this.1; omega) (fun y hy => by have := mem_sumL hy; have := hg.sl; omega) (fun y hy => by have := hg.p y hy; omega))
  exact ⟨by rw [h2], by rw [h2]; exact hc⟩

theorem w_ShellDecodes {kn : List AV → St → Option (AV × St)} {s : St} {bs : List Nat} {k : AV → St → Prop} (hF : s.Fr) (hkn : ∀ s', Up s s' [] → kn [] s' = some (.bool true, s')) (h256 : B256 bs)
    (hk : ∀ s', Up s s' [] → k (.bool true) s') : Cal (EV kn) 4 [.str bs] s k :=
  have hb : B256 (bs.take 300) := fun c hc => h256 c (List.mem_of_mem_take hc)
  c_ShellDecodes hF hkn hb (fun h h' => h (law_large h')) (fun h => law_small h hb) hk
end Go.Am

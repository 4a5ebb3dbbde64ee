/- Told: slices.Insert at texts. Told: the deferred function that looks for a panic and finds none. What the table says of the program. The code of the functions is what they are lowered to, part 0. What the table of the walks says of the program. Calls that have been evaluated are told. -/
import Derived.Test.YtjacmplknlploaaGreatDoorW26
import Derived.RecoverIn
import Derived.Test.YtjacmplknlploaaGreatDoorW22
import Derived.Test.YtjacmplknlploaaGreatDoorW23
import Derived.Test.YtjacmplknlploaaGreatDoorW24
import Derived.Test.YtjacmplknlploaaGreatDoorW25
import Derived.KernelRfl
import Derived.Test.YtjacmplknlploaaGreatDoorProg
import Derived.Test.YtjacmplknlploaaGreatDoorW13
import Derived.Test.YtjacmplknlploaaGreatDoorW10
set_option linter.all false
namespace Go.Am

theorem RepL.mk1 {G : Gh} {a : AV} {x : Value} (h : RepV G a x) : RepL G [a] [x] := by
  refine ⟨rfl, fun i p q h1 h2 => ?_⟩
  match i with
  | 0 => cases h1; cases h2; exact h
  | n + 1 => cases h1

theorem sp_insS (ng : Nat) : SpOk Go.Proofs.Tryz.prog ng 238 spInsS := by
  intro args s v s' G own w us h hR hr
  simp only [spInsS] at h
  split at h
  case h_2 => cases h
  rename_i id tg y
  split at h
  case h_2 => cases h
  rename_i a0 a1 tyv hlk htl
  cases hc : Nat.ble 2 tg with
  | false => rw [hc] at h; cases h
  | true =>
  rw [hc] at h
  simp only [cond_true, Option.some.injEq, Prod.mk.injEq] at h
  obtain ⟨rfl, rfl⟩ := h
  have htg : 2 ≤ tg := Nat.le_of_ble_eq_true hc
  obtain ⟨x, y, z, rfl, r1, r2, r3⟩ := hr.three
  cases r2
  cases r1 with
  | hsl _ _ _ _ b o cap n hz hloc hcap hbz hn =>
  cases r3 with
  | sl _ _ _ vb voff vcap vn vs vz vhs v1 vl vi vr vc vbs vn2 vt1 vt2 =>
  have hvl := vt2 htg
  obtain ⟨hapart, cv, fv, hcv, hfv, hev⟩ := lit_apart hR hlk hloc htl hvl
  obtain ⟨b2, o2, c, ty, f, k1, k2, k3, k4, k5, k6, k7⟩ := hR.objL hlk hloc
  rw [hloc] at k1; cases k1
  obtain ⟨c2, ty2, f2, j1, j2⟩ := hR.bsz _ _ hbz
  rw [k2] at j1; cases j1
  have hfr := hR.frz b o id c ty f (k6 o (by omega)) k2
  have hrv : RepL G [AV.str y] vs := ⟨vl.symm, fun i a v e1 e2 => vr i a v e1 e2⟩
  obtain ⟨q0, rfl, rq0⟩ := hrv.one'
  obtain ⟨p0, p1, hp, rp0, rp1⟩ := k4.two
  have hsz2 : o + 2 ≤ c.size := k3
  have hc0 : c[o]? = some p0 := by
    have : ((c.toList.drop o).take 2)[0]? = some p0 := by rw [show (2 : Nat) = [a0, a1].length from rfl, hp]; rfl
    simpa using this
  have hc1 : c[o + 1]? = some p1 := by
    have : ((c.toList.drop o).take 2)[1]? = some p1 := by rw [show (2 : Nat) = [a0, a1].length from rfl, hp]; rfl
    simpa using this
  have hq0 : w.cell? ⟨vb, voff, none⟩ = some q0 := by have := hR.cell (vi 0 q0 rfl); simpa using this
  have ones : a0.one = true ∧ a1.one = true := ⟨k5 _ (by simp), k5 _ (by simp)⟩
  have o1 : ∀ v ∈ [p0, p1], v.oneCell' = true := by
    intro v hv; simp at hv; rcases hv with rfl | rfl
    · exact rp0.oneC ones.1
    · exact rp1.oneC ones.2
  have o1' : ∀ v ∈ [p1], v.oneCell' = true := fun v hv => o1 v (by simp at hv; simp [hv])
  have o2 : ∀ v ∈ [q0], v.oneCell' = true := by
    intro v hv; simp at hv; subst hv
    exact rq0.oneC rfl
  refine .inr ⟨238, _, w, Go.Proofs.Tryz.call238 _ w, ?_⟩
  have hlen1 : [AV.str y].length = 1 := rfl
  rw [hlen1]
  have hoff : o + 0 * 1 = o := by omega
  rw [hoff]
  rcases Nat.lt_or_ge cap 3 with hcap2 | hcap2
  · refine Calls.mono (Go.Proofs.Any2.slices_Insert_string_grow Go.Proofs.Tryz.laysNm222 b o 2 cap 1 vb voff 1 vcap [p0, p1] [q0] w (by omega) (by omega) hcap hcap2 (by omega) rfl rfl
      (fun j v hj => by
        rw [cell_at k2]
        match j, hj with
        | 0, hj => cases hj; exact hc0
        | 1, hj => cases hj; exact hc1)
      (fun j v hj => by
        match j, hj with
        | 0, hj => cases hj; exact hq0) o1 o2) ?_
    rintro e w' ⟨rfl, hw'⟩
    have ht9 : Go.Proofs.Tryz.laysNm222_ren.t 9 = 9 := by kernel_rfl
    rw [ht9] at hw' ⊢
    generalize hrow : (([p0, p1].take 1).toArray ++ Builtin.zeroCells (Value.string ⟨#[]⟩).cells (2 + 1 - 1) ++ Builtin.zeroCells (Value.string ⟨#[]⟩).cells (grownCap w (2 + 1) cap 9 - (2 + 1)) : Array Value) = ROW at hw'
    have hge := grownCap_ge w 3 cap 9
    have hrs : ROW.size = grownCap w 3 cap 9 * 1 := by rw [← hrow]; simp [Builtin.zeroCells, Value.cells]; omega
    have hr0 : ROW[0]? = some p0 := by
      rw [← hrow, Array.append_assoc]
      rw [Array.getElem?_append_left (by simp)]; rfl
    have hW0 : ((w.alloc (.cells ROW 9)).drew).heap[w.heap.size]? = some (.cells ROW 9) := by
      show (w.heap.push (.cells ROW 9))[w.heap.size]? = _
      simp
    obtain ⟨e1, e2, e3, e4, c', e5, e6, e7⟩ := setCells_at (b := w.heap.size) [q0] 1 ((w.alloc (.cells ROW 9)).drew) ROW hW0 (by simp; omega)
    have hW1 : ((((w.alloc (.cells ROW 9)).drew).setCells w.heap.size 1 [q0]).drew).heap[w.heap.size]? = some (.cells c' 9) := e5
    obtain ⟨g1, g2, g3, g4, c3, g5, g6, g7⟩ := setCells_at (b := w.heap.size) [p1] 2 _ c' hW1 (by simp; omega)
    have hw2 : w' = (((w.alloc (.cells ROW 9)).drew.setCells w.heap.size 1 [q0]).drew).setCells w.heap.size 2 [p1] := hw'
    rw [← hw2] at g1 g2 g3 g4 g5
    have hheap : w'.heap = w.heap.push (.cells c3 9) := by
      apply Array.ext_getElem?
      intro x
      by_cases hx : x = w.heap.size
      · subst hx; rw [g5]; simp
      · rw [g4 x hx]
        show ((((w.alloc (.cells ROW 9)).drew).setCells w.heap.size 1 [q0])).heap[x]? = _
        rw [e4 x hx, Array.getElem?_push, if_neg hx]
        show (w.heap.push _)[x]? = _
        rw [Array.getElem?_push, if_neg hx]
    have hlist : c3.toList.take 3 = [p0, q0, p1] := by
      have := list3 (l := c3.toList) (o := 0) (p0 := p0) (p1 := q0) (p2 := p1)
        (by rw [Array.getElem?_toList, g7, if_neg (by simp), e7, if_neg (by simp)]; exact hr0) (by rw [Array.getElem?_toList, g7, if_neg (by simp), e7, if_pos (by simp)]; rfl)
        (by rw [Array.getElem?_toList, g7, if_pos (by simp)]; rfl)
      simpa using this
    have hf : [a0, AV.str y, a1].flatMap AV.cells = [a0, .str y, a1] := by
      simp only [List.flatMap_cons, List.flatMap_nil]
      rw [AV.one_cells ones.1, AV.one_cells ones.2]; rfl
    have hR1 : Rel Go.Proofs.Tryz.prog ng (s.del id) w G own := hR.forget del_sub
    obtain ⟨H, own', n1, n2, n3⟩ := new_arr (xs := [a0, .str y, a1]) (z := 1) (e := 9) (f := 0) hR1 (by omega) (by intro x hx; simp at hx; rcases hx with rfl | rfl | rfl; exact ⟨AV.one_nt ones.1, by rw [AV.one_cells ones.1]; rfl⟩; exact ⟨rfl, rfl⟩; exact ⟨AV.one_nt ones.2, by rw [AV.one_cells ones.2]; rfl⟩)
      (by intro x hx a ha; simp at hx; rcases hx with rfl | rfl | rfl
          · rw [AV.one_cells ones.1] at ha; simp at ha; subst ha; exact ones.1
          · simp [AV.cells] at ha; subst ha; rfl
          · rw [AV.one_cells ones.2] at ha; simp at ha; subst ha; exact ones.2)
      (c := c3) (cap := grownCap w 3 cap 9) (by rw [g6, e6, hrs]) (by simpa using hge) (by omega)
      (by
        rw [hf]
        show RepL G [a0, .str y, a1] (c3.toList.take 3)
        rw [hlist]
        exact (RepL.mk2 rp0 rq0).append (RepL.mk1 rp1)) w' hheap rfl ⟨g1.trans e1, g2.trans e2⟩
    rw [hf] at n2
    exact ⟨H, own', n1, n2, n3⟩
  · have hn' : o + cap * 1 ≤ c.size := by omega
    have hsp : ∀ j, j < 3 → (w.cell? ⟨b, o + j, none⟩).isSome = true := fun j hj => by
      rw [cell_at k2, Array.getElem?_eq_getElem (by omega)]; rfl
    have hfz : ∀ j, j < 3 → w.frozen? ⟨b, o + j, none⟩ = false := fun j hj => by
      simp [World.frozen?, k2]; omega
    refine Calls.mono (Go.Proofs.rplStrShift b o cap vb voff vcap p0 p1 q0 w hcap2 hapart (by rw [cell_at k2]; exact hc0) (by rw [cell_at k2]; exact hc1) hsp hfz hq0 o1' o2 _ _ cv.size c.size
      (by simp [World.shape?, hcv]; rfl) (by simp [World.shape?, k2]; rfl) (by omega) (by simp [World.frozen?, hcv, hfv]) (by simp [World.frozen?, hcv, hfv])) ?_
    rintro e w' ⟨rfl, hw'⟩
    have hW0 : w.drew.heap[b]? = some (.cells c ty f) := k2
    obtain ⟨e1, e2, e3, e4, c', e5, e6, e7⟩ := setCells_at (b := b) [p1] (o + 2) w.drew c hW0 (by simp; omega)
    obtain ⟨g1, g2, g3, g4, c3, g5, g6, g7⟩ := setCells_at (b := b) [q0] (o + 1) _ c' e5 (by simp; omega)
    rw [← hw'] at g1 g2 g3 g4 g5
    have hlist : (c3.toList.drop o).take 3 = [p0, q0, p1] :=
      list3 (by rw [Array.getElem?_toList, g7, if_neg (by simp; omega), e7, if_neg (by simp; omega)]; exact hc0) (by rw [Array.getElem?_toList, g7, if_pos (by simp)]; simp)
        (by rw [Array.getElem?_toList, g7, if_neg (by simp), e7, if_pos (by simp)]; simp)
    obtain ⟨H, own', m1, m2, m3⟩ := arr_rewrite (w' := w') (cs' := [a0, .str y, a1]) (c' := c3) hR hlk hloc k2 ⟨g1.trans e1, g2.trans e2⟩ (g3.trans e3) (fun x hx => (g4 x hx).trans (e4 x hx)) g5 (g6.trans e6)
      (fun j hj => by rw [g7, if_neg (by simp; omega), e7, if_neg (by simp; omega)])
      (by show RepL G [a0, .str y, a1] ((c3.toList.drop o).take 3); rw [hlist]; exact (RepL.mk2 rp0 rq0).append (RepL.mk1 rp1))
      (by intro a ha; simp at ha; rcases ha with rfl | rfl | rfl; exact ones.1; rfl; exact ones.2) (by simp; omega)
    refine ⟨H, own', ?_, m2, m3⟩
    have := RepV.hsl (G := H) s.next 0 3 1 b o cap c.size (by omega) m1 hcap2 (m3.bsz _ _ (by rw [hbz, j2])) (by omega)
    simpa using this

end Go.Am

namespace Go.Proofs
open Go.Am

theorem rplLookupD (v : Value) (w : World) :
    CallsDIn (Fw none) 0 Tryz.prog 435 #[v] .returning w fun e u' w' => e = .returned (.tuple #[]) ∧ u' = .returning ∧ w' = w := by
  refine callsDIn_of_wpSIn Tryz.func435 rfl trivial fun c₀ cs hu => ?_
  apply wpSIn_seq
  apply wpSIn_region
  simp [wpOpsSIn, go_sem, recoverD, hu, Tryz.ntmps435, Exit.thenS, Fw]
  refine wpSIn_cond (t := false) (by simp [Act.eval, Array.replicate]) ?_
  simp only [Bool.false_eq_true, if_false]
  refine wpSIn_of_wpIn rfl (wpIn_skip ?_)
  cases c₀
  simp_all [bodyPostS, results, Tryz.results435]
end Go.Proofs

namespace Go.Am
theorem sp_lookD (ng : Nat) {args : List AV} {s s' : St} {G : Gh} {own : Own} {w : World} {us : List Value} (h : spLookD args s = some s') (hR : Rel Go.Proofs.Tryz.prog ng s w G own) (hr : RepL G args us) :
    DoesD Go.Proofs.Tryz.prog 435 us.toArray w (fun w' => ∃ H own', Rel Go.Proofs.Tryz.prog ng s' w' H own' ∧ G.leC H) := by
  simp only [spLookD] at h
  split at h
  · cases h
    obtain ⟨x, rfl, _⟩ := hr.one'
    refine ⟨Go.Proofs.Tryz.call435 _ w, trivial, fun c cs hu hroom => ?_⟩
    obtain ⟨e, u', w', fr, ⟨rfl, rfl, rfl⟩, k⟩ := (Go.Proofs.rplLookupD x w).2 c cs hu hroom
    exact ⟨_, _, _, fr, ⟨rfl, ⟨_, rfl⟩, G, own, hR, Gh.leC.refl G⟩, k⟩
  · cases h
end Go.Am

namespace Go.Am
open Go.Proofs
def Low1 (k : Nat) (v : IFunc) : Prop := ∃ (fn : Func) (fl : Nat → Nat), Tryz.prog.funcs[k]? = some fn ∧ lowFn Tryz.prog 6 fl fn = some v.five
theorem FT_all : FT.All Low1 := ⟨⟨_, fl1, Tryz.func185, l185⟩, ⟨⟨_, fl1, Tryz.func99, l99⟩, ⟨⟨_, fl1, Tryz.func55, l55⟩, ⟨⟨_, fl1, Tryz.func33, l33⟩, ⟨⟨_, fl1, Tryz.func22, l22⟩, ⟨⟨_, (flT 25), Tryz.func14, l14⟩, ⟨⟨_, fl1, Tryz.func10, l10⟩, ⟨⟨_, fl1, Tryz.func9, l9⟩, ⟨⟨_, fl1, Tryz.func7, l7⟩, trivial, trivial⟩, trivial⟩, ⟨⟨_, fl1, Tryz.func12, l12⟩, ⟨⟨_, fl1, Tryz.func11, l11⟩, trivial, trivial⟩, trivial⟩⟩, ⟨⟨_, fl1, Tryz.func20, l20⟩, ⟨⟨_, fl1, Tryz.func19, l19⟩, ⟨⟨_, fl1, Tryz.func17, l17⟩, trivial, trivial⟩, trivial⟩, ⟨⟨_, fl1, Tryz.func21, l21⟩, trivial, trivial⟩⟩⟩, ⟨⟨_, fl1, Tryz.func28, l28⟩, ⟨⟨_, fl1, Tryz.func25, l25⟩, ⟨⟨_, fl1, Tryz.func24, l24⟩, ⟨⟨_, fl1, Tryz.func23, l23⟩, trivial, trivial⟩, trivial⟩, ⟨⟨_, fl1, Tryz.func27, l27⟩, ⟨⟨_, fl1, Tryz.func26, l26⟩, trivial, trivial⟩, trivial⟩⟩, ⟨⟨_, fl1, Tryz.func31, l31⟩, ⟨⟨_, fl1, Tryz.func30, l30⟩, ⟨⟨_, fl1, Tryz.func29, l29⟩, trivial, trivial⟩, trivial⟩, ⟨⟨_, fl1, Tryz.func32, l32⟩, trivial, trivial⟩⟩⟩⟩, ⟨⟨_, fl1, Tryz.func45, l45⟩, ⟨⟨_, fl1, Tryz.func40, l40⟩, ⟨⟨_, fl1, Tryz.func37, l37⟩, ⟨⟨_, fl1, Tryz.func36, l36⟩, ⟨⟨_, fl1, Tryz.func35, l35⟩, trivial, trivial⟩, trivial⟩, ⟨⟨_, fl1, Tryz.func39, l39⟩, ⟨⟨_, fl1, Tryz.func38, l38⟩, trivial, trivial⟩, trivial⟩⟩, ⟨⟨_, fl1, Tryz.func43, l43⟩, ⟨⟨_, fl1, Tryz.func42, l42⟩, ⟨⟨_, fl1, Tryz.func41, l41⟩, trivial, trivial⟩, trivial⟩, ⟨⟨_, fl1, Tryz.func44, l44⟩, trivial, trivial⟩⟩⟩, ⟨⟨_, fl1, Tryz.func50, l50⟩, ⟨⟨_, fl1, Tryz.func48, l48⟩, ⟨⟨_, fl1, Tryz.func47, l47⟩, ⟨⟨_, fl1, Tryz.func46, l46⟩, trivial, trivial⟩, trivial⟩, ⟨⟨_, fl1, Tryz.func49, l49⟩, trivial, trivial⟩⟩, ⟨⟨_, fl1, Tryz.func53, l53⟩, ⟨⟨_, fl1, Tryz.func52, l52⟩, ⟨⟨_, fl1, Tryz.func51, l51⟩, trivial, trivial⟩, trivial⟩, ⟨⟨_, fl1, Tryz.func54, l54⟩, trivial, trivial⟩⟩⟩⟩⟩, ⟨⟨_, fl1, Tryz.func78, l78⟩, ⟨⟨_, fl1, Tryz.func67, l67⟩, ⟨⟨_, fl1, Tryz.func61, l61⟩, ⟨⟨_, fl1, Tryz.func58, l58⟩, ⟨⟨_, fl1, Tryz.func57, l57⟩, ⟨⟨_, fl1, Tryz.func56, l56⟩, trivial, trivial⟩, trivial⟩, ⟨⟨_, fl1, Tryz.func60, l60⟩, ⟨⟨_, fl1, Tryz.func59, l59⟩, trivial, trivial⟩, trivial⟩⟩, ⟨⟨_, fl1, Tryz.func64, l64⟩, ⟨⟨_, fl1, Tryz.func63, l63⟩, ⟨⟨_, fl1, Tryz.func62, l62⟩, trivial, trivial⟩, trivial⟩, ⟨⟨_, fl1, Tryz.func65, l65⟩, trivial, trivial⟩⟩⟩, ⟨⟨_, fl1, Tryz.func73, l73⟩, ⟨⟨_, fl1, Tryz.func71, l71⟩, ⟨⟨_, fl1, Tryz.func69, l69⟩, ⟨⟨_, fl1, Tryz.func68, l68⟩, trivial, trivial⟩, trivial⟩, ⟨⟨_, fl1, Tryz.func72, l72⟩, trivial, trivial⟩⟩, ⟨⟨_, fl1, Tryz.func76, l76⟩, ⟨⟨_, fl1, Tryz.func75, l75⟩, ⟨⟨_, fl1, Tryz.func74, l74⟩, trivial, trivial⟩, trivial⟩, ⟨⟨_, fl1, Tryz.func77, l77⟩, trivial, trivial⟩⟩⟩⟩, ⟨⟨_, fl1, Tryz.func89, l89⟩, ⟨⟨_, fl1, Tryz.func84, l84⟩, ⟨⟨_, fl1, Tryz.func81, l81⟩, ⟨⟨_, fl1, Tryz.func80, l80⟩, ⟨⟨_, fl1, Tryz.func79, l79⟩, trivial, trivial⟩, trivial⟩, ⟨⟨_, fl1, Tryz.func83, l83⟩, ⟨⟨_, fl1, Tryz.func82, l82⟩, trivial, trivial⟩, trivial⟩⟩, ⟨⟨_, fl1, Tryz.func87, l87⟩, ⟨⟨_, fl1, Tryz.func86, l86⟩, ⟨⟨_, fl1, Tryz.func85, l85⟩, trivial, trivial⟩, trivial⟩, ⟨⟨_, fl1, Tryz.func88, l88⟩, trivial, trivial⟩⟩⟩, ⟨⟨_, fl1, Tryz.func94, l94⟩, ⟨⟨_, fl1, Tryz.func92, l92⟩, ⟨⟨_, fl1, Tryz.func91, l91⟩, ⟨⟨_, fl1, Tryz.func90, l90⟩, trivial, trivial⟩, trivial⟩, ⟨⟨_, fl1, Tryz.func93, l93⟩, trivial, trivial⟩⟩, ⟨⟨_, fl1, Tryz.func97, l97⟩, ⟨⟨_, fl1, Tryz.func96, l96⟩, ⟨⟨_, fl1, Tryz.func95, l95⟩, trivial, trivial⟩, trivial⟩, ⟨⟨_, fl1, Tryz.func98, l98⟩, trivial, trivial⟩⟩⟩⟩⟩⟩, ⟨⟨_, fl1, Tryz.func142, l142⟩, ⟨⟨_, fl1, Tryz.func121, l121⟩, ⟨⟨_, fl1, Tryz.func110, l110⟩, ⟨⟨_, fl1, Tryz.func105, l105⟩, ⟨⟨_, fl1, Tryz.func102, l102⟩, ⟨⟨_, fl1, Tryz.func101, l101⟩, ⟨⟨_, fl1, Tryz.func100, l100⟩, trivial, trivial⟩, trivial⟩, ⟨⟨_, fl1, Tryz.func104, l104⟩, ⟨⟨_, fl1, Tryz.func103, l103⟩, trivial, trivial⟩, trivial⟩⟩, ⟨⟨_, fl1, Tryz.func108, l108⟩, ⟨⟨_, fl1, Tryz.func107, l107⟩, ⟨⟨_, fl1, Tryz.func106, l106⟩, trivial, trivial⟩, trivial⟩, ⟨⟨_, fl1, Tryz.func109, l109⟩, trivial, trivial⟩⟩⟩, ⟨⟨_, fl1, Tryz.func116, l116⟩, ⟨⟨_, fl1, Tryz.func113, l113⟩, ⟨⟨_, fl1, Tryz.func112, l112⟩, ⟨⟨_, fl1, Tryz.func111, l111⟩, trivial, trivial⟩, trivial⟩, ⟨⟨_, fl1, Tryz.func115, l115⟩, ⟨⟨_, fl1, Tryz.func114, l114⟩, trivial, trivial⟩, trivial⟩⟩, ⟨⟨_, fl1, Tryz.func119, l119⟩, ⟨⟨_, fl1, Tryz.func118, l118⟩, ⟨⟨_, fl1, Tryz.func117, l117⟩, trivial, trivial⟩, trivial⟩, ⟨⟨_, fl1, Tryz.func120, l120⟩, trivial, trivial⟩⟩⟩⟩, ⟨⟨_, fl1, Tryz.func132, l132⟩, ⟨⟨_, fl1, Tryz.func127, l127⟩, ⟨⟨_, fl1, Tryz.func124, l124⟩, ⟨⟨_, fl1, Tryz.func123, l123⟩, ⟨⟨_, fl1, Tryz.func122, l122⟩, trivial, trivial⟩, trivial⟩, ⟨⟨_, fl1, Tryz.func126, l126⟩, ⟨⟨_, fl1, Tryz.func125, l125⟩, trivial, trivial⟩, trivial⟩⟩, ⟨⟨_, fl1, Tryz.func130, l130⟩, ⟨⟨_, fl1, Tryz.func129, l129⟩, ⟨⟨_, fl1, Tryz.func128, l128⟩, trivial, trivial⟩, trivial⟩, ⟨⟨_, fl1, Tryz.func131, l131⟩, trivial, trivial⟩⟩⟩, ⟨⟨_, fl1, Tryz.func137, l137⟩, ⟨⟨_, fl1, Tryz.func135, l135⟩, ⟨⟨_, fl1, Tryz.func134, l134⟩, ⟨⟨_, fl1, Tryz.func133, l133⟩, trivial, trivial⟩, trivial⟩, ⟨⟨_, fl1, Tryz.func136, l136⟩, trivial, trivial⟩⟩, ⟨⟨_, fl1, Tryz.func140, l140⟩, ⟨⟨_, fl1, Tryz.func139, l139⟩, ⟨⟨_, fl1, Tryz.func138, l138⟩, trivial, trivial⟩, trivial⟩, ⟨⟨_, fl1, Tryz.func141, l141⟩, trivial, trivial⟩⟩⟩⟩⟩, ⟨⟨_, fl1, Tryz.func164, l164⟩, ⟨⟨_, fl1, Tryz.func154, l154⟩, ⟨⟨_, fl1, Tryz.func148, l148⟩, ⟨⟨_, fl1, Tryz.func145, l145⟩, ⟨⟨_, fl1, Tryz.func144, l144⟩, ⟨⟨_, fl1, Tryz.func143, l143⟩, trivial, trivial⟩, trivial⟩, ⟨⟨_, fl1, Tryz.func147, l147⟩, ⟨⟨_, fl1, Tryz.func146, l146⟩, trivial, trivial⟩, trivial⟩⟩, ⟨⟨_, fl1, Tryz.func152, l152⟩, ⟨⟨_, fl1, Tryz.func150, l150⟩, ⟨⟨_, fl1, Tryz.func149, l149⟩, trivial, trivial⟩, trivial⟩, ⟨⟨_, fl1, Tryz.func153, l153⟩, trivial, trivial⟩⟩⟩, ⟨⟨_, fl1, Tryz.func159, l159⟩, ⟨⟨_, fl1, Tryz.func157, l157⟩, ⟨⟨_, fl1, Tryz.func156, l156⟩, ⟨⟨_, fl1, Tryz.func155, l155⟩, trivial, trivial⟩, trivial⟩, ⟨⟨_, fl1, Tryz.func158, l158⟩, trivial, trivial⟩⟩, ⟨⟨_, fl1, Tryz.func162, l162⟩, ⟨⟨_, fl1, Tryz.func161, l161⟩, ⟨⟨_, fl1, Tryz.func160, l160⟩, trivial, trivial⟩, trivial⟩, ⟨⟨_, fl1, Tryz.func163, l163⟩, trivial, trivial⟩⟩⟩⟩, ⟨⟨_, fl1, Tryz.func175, l175⟩, ⟨⟨_, fl1, Tryz.func170, l170⟩, ⟨⟨_, fl1, Tryz.func167, l167⟩, ⟨⟨_, fl1, Tryz.func166, l166⟩, ⟨⟨_, fl1, Tryz.func165, l165⟩, trivial, trivial⟩, trivial⟩, ⟨⟨_, fl1, Tryz.func169, l169⟩, ⟨⟨_, fl1, Tryz.func168, l168⟩, trivial, trivial⟩, trivial⟩⟩, ⟨⟨_, fl1, Tryz.func173, l173⟩, ⟨⟨_, fl1, Tryz.func172, l172⟩, ⟨⟨_, fl1, Tryz.func171, l171⟩, trivial, trivial⟩, trivial⟩, ⟨⟨_, fl1, Tryz.func174, l174⟩, trivial, trivial⟩⟩⟩, ⟨⟨_, fl1, Tryz.func180, l180⟩, ⟨⟨_, fl1, Tryz.func178, l178⟩, ⟨⟨_, fl1, Tryz.func177, l177⟩, ⟨⟨_, fl1, Tryz.func176, l176⟩, trivial, trivial⟩, trivial⟩, ⟨⟨_, fl1, Tryz.func179, l179⟩, trivial, trivial⟩⟩, ⟨⟨_, fl1, Tryz.func183, l183⟩, ⟨⟨_, fl1, Tryz.func182, l182⟩, ⟨⟨_, fl1, Tryz.func181, l181⟩, trivial, trivial⟩, trivial⟩, ⟨⟨_, fl1, Tryz.func184, l184⟩, trivial, trivial⟩⟩⟩⟩⟩⟩⟩, ⟨⟨_, fl1, Tryz.func284, l284⟩, ⟨⟨_, fl1, Tryz.func235, l235⟩, ⟨⟨_, fl1, Tryz.func210, l210⟩, ⟨⟨_, (flT 25), Tryz.func196, l196⟩, ⟨⟨_, fl1, Tryz.func191, l191⟩, ⟨⟨_, fl1, Tryz.func188, l188⟩, ⟨⟨_, fl1, Tryz.func187, l187⟩, ⟨⟨_, fl1, Tryz.func186, l186⟩, trivial, trivial⟩, trivial⟩, ⟨⟨_, fl1, Tryz.func190, l190⟩, ⟨⟨_, fl1, Tryz.func189, l189⟩, trivial, trivial⟩, trivial⟩⟩, ⟨⟨_, fl1, Tryz.func194, l194⟩, ⟨⟨_, fl1, Tryz.func193, l193⟩, ⟨⟨_, fl1, Tryz.func192, l192⟩, trivial, trivial⟩, trivial⟩, ⟨⟨_, fl1, Tryz.func195, l195⟩, trivial, trivial⟩⟩⟩, ⟨⟨_, fl1, Tryz.func202, l202⟩, ⟨⟨_, fl1, Tryz.func199, l199⟩, ⟨⟨_, fl1, Tryz.func198, l198⟩, ⟨⟨_, fl1, Tryz.func197, l197⟩, trivial, trivial⟩, trivial⟩, ⟨⟨_, fl1, Tryz.func201, l201⟩, ⟨⟨_, fl1, Tryz.func200, l200⟩, trivial, trivial⟩, trivial⟩⟩, ⟨⟨_, fl1, Tryz.func205, l205⟩, ⟨⟨_, fl1, Tryz.func204, l204⟩, ⟨⟨_, fl1, Tryz.func203, l203⟩, trivial, trivial⟩, trivial⟩, ⟨⟨_, fl1, Tryz.func207, l207⟩, trivial, trivial⟩⟩⟩⟩, ⟨⟨_, fl1, Tryz.func225, l225⟩, ⟨⟨_, fl1, Tryz.func220, l220⟩, ⟨⟨_, fl1, Tryz.func214, l214⟩, ⟨⟨_, fl1, Tryz.func213, l213⟩, ⟨⟨_, fl1, Tryz.func212, l212⟩, trivial, trivial⟩, trivial⟩, ⟨⟨_, fl1, Tryz.func219, l219⟩, ⟨⟨_, fl1, Tryz.func215, l215⟩, trivial, trivial⟩, trivial⟩⟩, ⟨⟨_, fl1, Tryz.func223, l223⟩, ⟨⟨_, fl1, Tryz.func222, l222⟩, ⟨⟨_, fl1, Tryz.func221, l221⟩, trivial, trivial⟩, trivial⟩, ⟨⟨_, fl1, Tryz.func224, l224⟩, trivial, trivial⟩⟩⟩, ⟨⟨_, fl1, Tryz.func230, l230⟩, ⟨⟨_, fl1, Tryz.func228, l228⟩, ⟨⟨_, fl1, Tryz.func227, l227⟩, ⟨⟨_, fl1, Tryz.func226, l226⟩, trivial, trivial⟩, trivial⟩, ⟨⟨_, fl1, Tryz.func229, l229⟩, trivial, trivial⟩⟩, ⟨⟨_, fl1, Tryz.func233, l233⟩, ⟨⟨_, fl1, Tryz.func232, l232⟩, ⟨⟨_, fl1, Tryz.func231, l231⟩, trivial, trivial⟩, trivial⟩, ⟨⟨_, fl1, Tryz.func234, l234⟩, trivial, trivial⟩⟩⟩⟩⟩, ⟨⟨_, fl1, Tryz.func258, l258⟩, ⟨⟨_, fl1, Tryz.func248, l248⟩, ⟨⟨_, fl1, Tryz.func243, l243⟩, ⟨⟨_, (flT 25), Tryz.func238, l238⟩, ⟨⟨_, fl1, Tryz.func237, l237⟩, ⟨⟨_, fl1, Tryz.func236, l236⟩, trivial, trivial⟩, trivial⟩, ⟨⟨_, fl1, Tryz.func240, l240⟩, ⟨⟨_, fl1, Tryz.func239, l239⟩, trivial, trivial⟩, trivial⟩⟩, ⟨⟨_, fl1, Tryz.func246, l246⟩, ⟨⟨_, fl1, Tryz.func245, l245⟩, ⟨⟨_, fl1, Tryz.func244, l244⟩, trivial, trivial⟩, trivial⟩, ⟨⟨_, fl1, Tryz.func247, l247⟩, trivial, trivial⟩⟩⟩, ⟨⟨_, fl1, Tryz.func253, l253⟩, ⟨⟨_, fl1, Tryz.func251, l251⟩, ⟨⟨_, fl1, Tryz.func250, l250⟩, ⟨⟨_, fl1, Tryz.func249, l249⟩, trivial, trivial⟩, trivial⟩, ⟨⟨_, fl1, Tryz.func252, l252⟩, trivial, trivial⟩⟩, ⟨⟨_, fl1, Tryz.func256, l256⟩, ⟨⟨_, fl1, Tryz.func255, l255⟩, ⟨⟨_, fl1, Tryz.func254, l254⟩, trivial, trivial⟩, trivial⟩, ⟨⟨_, fl1, Tryz.func257, l257⟩, trivial, trivial⟩⟩⟩⟩, ⟨⟨_, fl1, Tryz.func271, l271⟩, ⟨⟨_, fl1, Tryz.func264, l264⟩, ⟨⟨_, fl1, Tryz.func261, l261⟩, ⟨⟨_, fl1, Tryz.func260, l260⟩, ⟨⟨_, fl1, Tryz.func259, l259⟩, trivial, trivial⟩, trivial⟩, ⟨⟨_, fl1, Tryz.func263, l263⟩, ⟨⟨_, fl1, Tryz.func262, l262⟩, trivial, trivial⟩, trivial⟩⟩, ⟨⟨_, fl1, Tryz.func269, l269⟩, ⟨⟨_, fl1, Tryz.func268, l268⟩, ⟨⟨_, fl1, Tryz.func265, l265⟩, trivial, trivial⟩, trivial⟩, ⟨⟨_, fl1, Tryz.func270, l270⟩, trivial, trivial⟩⟩⟩, ⟨⟨_, fl1, Tryz.func277, l277⟩, ⟨⟨_, fl1, Tryz.func274, l274⟩, ⟨⟨_, fl1, Tryz.func273, l273⟩, ⟨⟨_, fl1, Tryz.func272, l272⟩, trivial, trivial⟩, trivial⟩, ⟨⟨_, fl1, Tryz.func275, l275⟩, trivial, trivial⟩⟩, ⟨⟨_, fl1, Tryz.func282, l282⟩, ⟨⟨_, fl1, Tryz.func281, l281⟩, ⟨⟨_, fl1, Tryz.func278, l278⟩, trivial, trivial⟩, trivial⟩, ⟨⟨_, fl1, Tryz.func283, l283⟩, trivial, trivial⟩⟩⟩⟩⟩⟩, ⟨⟨_, fl1, Tryz.func347, l347⟩, ⟨⟨_, fl1, Tryz.func320, l320⟩, ⟨⟨_, fl1, Tryz.func302, l302⟩, ⟨⟨_, fl1, Tryz.func297, l297⟩, ⟨⟨_, fl1, Tryz.func287, l287⟩, ⟨⟨_, fl1, Tryz.func286, l286⟩, ⟨⟨_, fl1, Tryz.func285, l285⟩, trivial, trivial⟩, trivial⟩, ⟨⟨_, fl1, Tryz.func296, l296⟩, ⟨⟨_, fl1, Tryz.func288, l288⟩, trivial, trivial⟩, trivial⟩⟩, ⟨⟨_, fl1, Tryz.func300, l300⟩, ⟨⟨_, fl1, Tryz.func299, l299⟩, ⟨⟨_, fl1, Tryz.func298, l298⟩, trivial, trivial⟩, trivial⟩, ⟨⟨_, fl1, Tryz.func301, l301⟩, trivial, trivial⟩⟩⟩, ⟨⟨_, fl1, Tryz.func310, l310⟩, ⟨⟨_, fl1, Tryz.func307, l307⟩, ⟨⟨_, fl1, Tryz.func304, l304⟩, ⟨⟨_, fl1, Tryz.func303, l303⟩, trivial, trivial⟩, trivial⟩, ⟨⟨_, fl1, Tryz.func309, l309⟩, ⟨⟨_, fl1, Tryz.func308, l308⟩, trivial, trivial⟩, trivial⟩⟩, ⟨⟨_, fl1, Tryz.func317, l317⟩, ⟨⟨_, fl1, Tryz.func316, l316⟩, ⟨⟨_, flA, Tryz.func315, l315⟩, trivial, trivial⟩, trivial⟩, ⟨⟨_, fl1, Tryz.func319, l319⟩, trivial, trivial⟩⟩⟩⟩, ⟨⟨_, fl1, Tryz.func332, l332⟩, ⟨⟨_, fl1, Tryz.func326, l326⟩, ⟨⟨_, fl1, Tryz.func323, l323⟩, ⟨⟨_, fl1, Tryz.func322, l322⟩, ⟨⟨_, fl1, Tryz.func321, l321⟩, trivial, trivial⟩, trivial⟩, ⟨⟨_, fl1, Tryz.func325, l325⟩, ⟨⟨_, fl1, Tryz.func324, l324⟩, trivial, trivial⟩, trivial⟩⟩, ⟨⟨_, fl1, Tryz.func329, l329⟩, ⟨⟨_, fl1, Tryz.func328, l328⟩, ⟨⟨_, fl1, Tryz.func327, l327⟩, trivial, trivial⟩, trivial⟩, ⟨⟨_, fl1, Tryz.func331, l331⟩, trivial, trivial⟩⟩⟩, ⟨⟨_, fl1, Tryz.func341, l341⟩, ⟨⟨_, fl1, Tryz.func337, l337⟩, ⟨⟨_, fl1, Tryz.func335, l335⟩, ⟨⟨_, fl1, Tryz.func333, l333⟩, trivial, trivial⟩, trivial⟩, ⟨⟨_, fl1, Tryz.func338, l338⟩, trivial, trivial⟩⟩, ⟨⟨_, fl1, Tryz.func344, l344⟩, ⟨⟨_, fl1, Tryz.func343, l343⟩, ⟨⟨_, fl1, Tryz.func342, l342⟩, trivial, trivial⟩, trivial⟩, ⟨⟨_, fl1, Tryz.func345, l345⟩, trivial, trivial⟩⟩⟩⟩⟩, ⟨⟨_, fl1, Tryz.func397, l397⟩, ⟨⟨_, fl1, Tryz.func365, l365⟩, ⟨⟨_, fl1, Tryz.func357, l357⟩, ⟨⟨_, fl1, Tryz.func351, l351⟩, ⟨⟨_, fl1, Tryz.func349, l349⟩, ⟨⟨_, (flT 19), Tryz.func348, l348⟩, trivial, trivial⟩, trivial⟩, ⟨⟨_, fl1, Tryz.func356, l356⟩, ⟨⟨_, fl1, Tryz.func355, l355⟩, trivial, trivial⟩, trivial⟩⟩, ⟨⟨_, fl1, Tryz.func363, l363⟩, ⟨⟨_, fl1, Tryz.func362, l362⟩, ⟨⟨_, fl1, Tryz.func361, l361⟩, trivial, trivial⟩, trivial⟩, ⟨⟨_, fl1, Tryz.func364, l364⟩, trivial, trivial⟩⟩⟩, ⟨⟨_, fl1, Tryz.func375, l375⟩, ⟨⟨_, fl1, Tryz.func371, l371⟩, ⟨⟨_, fl1, Tryz.func370, l370⟩, ⟨⟨_, fl1, Tryz.func366, l366⟩, trivial, trivial⟩, trivial⟩, ⟨⟨_, fl1, Tryz.func373, l373⟩, trivial, trivial⟩⟩, ⟨⟨_, fl1, Tryz.func389, l389⟩, ⟨⟨_, fl1, Tryz.func381, l381⟩, ⟨⟨_, fl1, Tryz.func379, l379⟩, trivial, trivial⟩, trivial⟩, ⟨⟨_, fl1, Tryz.func396, l396⟩, trivial, trivial⟩⟩⟩⟩, ⟨⟨_, fl1, Tryz.func418, l418⟩, ⟨⟨_, fl1, Tryz.func410, l410⟩, ⟨⟨_, fl1, Tryz.func402, l402⟩, ⟨⟨_, fl1, Tryz.func399, l399⟩, ⟨⟨_, fl1, Tryz.func398, l398⟩, trivial, trivial⟩, trivial⟩, ⟨⟨_, fl1, Tryz.func404, l404⟩, ⟨⟨_, fl1, Tryz.func403, l403⟩, trivial, trivial⟩, trivial⟩⟩, ⟨⟨_, fl1, Tryz.func414, l414⟩, ⟨⟨_, fl1, Tryz.func413, l413⟩, ⟨⟨_, fl1, Tryz.func411, l411⟩, trivial, trivial⟩, trivial⟩, ⟨⟨_, fl1, Tryz.func417, l417⟩, trivial, trivial⟩⟩⟩, ⟨⟨_, fl1, Tryz.func432, l432⟩, ⟨⟨_, fl1, Tryz.func427, l427⟩, ⟨⟨_, fl1, Tryz.func426, l426⟩, ⟨⟨_, fl1, Tryz.func419, l419⟩, trivial, trivial⟩, trivial⟩, ⟨⟨_, fl1, Tryz.func429, l429⟩, trivial, trivial⟩⟩, ⟨⟨_, fl1, Tryz.func437, l437⟩, ⟨⟨_, fl1, Tryz.func436, l436⟩, ⟨⟨_, fl1, Tryz.func433, l433⟩, trivial, trivial⟩, trivial⟩, ⟨⟨_, fl1, Tryz.func438, l438⟩, trivial, trivial⟩⟩⟩⟩⟩⟩⟩⟩

theorem lowFn_spec {P : Program} {ng : Nat} {fl : Nat → Nat} {fn : Func} {v : IFunc} (h : lowFn P ng fl fn = some v.five) :
    ∃ c, fn.body = some c ∧ (fn.name == "runtime.NumGoroutine") = false ∧ low P ng fl c = some v.body ∧ lowR P fn.results.toList = some v.res ∧ v.ntmps = fn.ntmps ∧ v.body.dstLt v.ntmps = true := by
  unfold lowFn at h
  cases hb : fn.body with
  | none => simp [hb] at h
  | some c =>
    simp only [hb, Option.bind_some] at h
    cases hl : low P ng fl c with
    | none => simp [hl] at h
    | some ic =>
      simp only [hl, Option.bind_some] at h
      cases hr : lowR P fn.results.toList with
      | none => simp [hr] at h
      | some rs =>
        simp only [hr, Option.map_some, IFunc.five, Option.some.injEq, Prod.mk.injEq] at h
        obtain ⟨h1, h2, h3, h4, h5⟩ := h
        exact ⟨c, rfl, h4, by rw [hl, h2], by rw [← h3], h1.symm, by rw [← h2, ← h1]; exact h5⟩

theorem spT_ok {f : Nat} {h : List AV → St → Option (AV × St)} (e : spT f = some h) : SpOk Tryz.prog 6 f h := by
  unfold spT at e
  by_cases c1 : Nat.beq f 314 = true
  · rw [c1] at e; cases e; rw [Nat.eq_of_beq_eq_true c1]; exact sp_string 6
  rw [Bool.not_eq_true] at c1; rw [c1, cond_false] at e
  by_cases c1 : Nat.beq f 334 = true
  · rw [c1] at e; cases e; rw [Nat.eq_of_beq_eq_true c1]; exact sp_join 6
  rw [Bool.not_eq_true] at c1; rw [c1, cond_false] at e
  by_cases c1 : Nat.beq f 408 = true
  · rw [c1] at e; cases e; rw [Nat.eq_of_beq_eq_true c1]; exact sp_count Tryz.func408 (by kernel_rfl) (by kernel_rfl) (by kernel_rfl) (by kernel_rfl)
  rw [Bool.not_eq_true] at c1; rw [c1, cond_false] at e
  by_cases c1 : Nat.beq f 339 = true
  · rw [c1] at e; cases e; rw [Nat.eq_of_beq_eq_true c1]; exact sp_idxB Tryz.func339 (by kernel_rfl) (by kernel_rfl) (by kernel_rfl) (by kernel_rfl)
  rw [Bool.not_eq_true] at c1; rw [c1, cond_false] at e
  by_cases c1 : Nat.beq f 311 = true
  · rw [c1] at e; cases e; rw [Nat.eq_of_beq_eq_true c1]; exact sp_cmp Tryz.func311 (by kernel_rfl) (by kernel_rfl) (by kernel_rfl) (by kernel_rfl)
  rw [Bool.not_eq_true] at c1; rw [c1, cond_false] at e
  by_cases c1 : Nat.beq f 238 = true
  · rw [c1] at e; cases e; rw [Nat.eq_of_beq_eq_true c1]; exact sp_insS 6
  rw [Bool.not_eq_true] at c1; rw [c1, cond_false] at e
  by_cases c1 : Nat.beq f 196 = true
  · rw [c1] at e; cases e; rw [Nat.eq_of_beq_eq_true c1]; exact sp_insV 6
  rw [Bool.not_eq_true] at c1; rw [c1, cond_false] at e
  cases e

theorem E0_fn (f : Nat) (fi : IFunc) (h : FT.get f = some fi) : ∃ fn c fl, Tryz.prog.funcs[f]? = some fn ∧ fn.body = some c ∧ (fn.name == "runtime.NumGoroutine") = false ∧ low Tryz.prog 6 fl c = some fi.body ∧ lowR Tryz.prog fn.results.toList = some fi.res ∧ fi.ntmps = fn.ntmps := by
  obtain ⟨fn, fl, h1, h2⟩ := Tr.get_all FT_all h
  obtain ⟨c, k1, k2, k3, k4, k5, _⟩ := lowFn_spec h2
  exact ⟨fn, c, fl, h1, k1, k2, k3, k4, k5⟩

/-- An environment with more told functions. -/
theorem envOk_of {E : Env} (h1 : E.fn = FT.get) (h2 : ∀ f h, E.sp f = some h → SpOk Tryz.prog 6 f h) (h3 : E.dsp = dspT) : EnvOk Tryz.prog 6 E := {
  fn := fun f fi h => E0_fn f fi (by rw [h1] at h; exact h)
  sp := h2
  dsp := fun f h e args s s' G own w us k hR hr => by
    rw [h3] at e
    unfold dspT at e
    by_cases c1 : Nat.beq f 435 = true
    · rw [c1] at e; cases e; rw [Nat.eq_of_beq_eq_true c1]; exact sp_lookD 6 k hR hr
    · rw [Bool.not_eq_true] at c1; rw [c1, cond_false] at e; cases e }

theorem depOk_of {E : Env} (h1 : E.fn = FT.get) : DepOk E := by
  intro f fi h
  rw [h1] at h
  obtain ⟨fn, fl, _, h2⟩ := Tr.get_all FT_all h
  obtain ⟨_, _, _, _, _, _, k6⟩ := lowFn_spec h2
  exact k6

theorem E0_ok : EnvOk Tryz.prog 6 E0 := envOk_of rfl (fun _ _ => spT_ok) rfl

end Go.Am

namespace Go.Am.T
open Go.Proofs
theorem l3 : lowFn Tryz.prog 6 fl1 Tryz.f3 = some f3.five := by kernel_rfl
theorem l4 : lowFn Tryz.prog 6 fl1 Tryz.f4 = some f4.five := by kernel_rfl
theorem l5 : lowFn Tryz.prog 6 fl1 Tryz.f5 = some f5.five := by kernel_rfl
theorem l6 : lowFn Tryz.prog 6 fl1 Tryz.f6 = some f6.five := by kernel_rfl
theorem l7 : lowFn Tryz.prog 6 fl1 Tryz.f7 = some f7.five := by kernel_rfl
theorem l8 : lowFn Tryz.prog 6 fl1 Tryz.f8 = some f8.five := by kernel_rfl
theorem l10 : lowFn Tryz.prog 6 fl1 Tryz.f10 = some f10.five := by kernel_rfl
theorem l11 : lowFn Tryz.prog 6 fl1 Tryz.f11 = some f11.five := by kernel_rfl
theorem l12 : lowFn Tryz.prog 6 fl1 Tryz.f12 = some f12.five := by kernel_rfl
theorem l14 : lowFn Tryz.prog 6 fl1 Tryz.f14 = some f14.five := by kernel_rfl
theorem l15 : lowFn Tryz.prog 6 fl1 Tryz.f15 = some f15.five := by kernel_rfl
theorem l16 : lowFn Tryz.prog 6 fl1 Tryz.f16 = some f16.five := by kernel_rfl
theorem l17 : lowFn Tryz.prog 6 fl1 Tryz.f17 = some f17.five := by kernel_rfl
theorem l18 : lowFn Tryz.prog 6 fl1 Tryz.f18 = some f18.five := by kernel_rfl
theorem l19 : lowFn Tryz.prog 6 fl1 Tryz.f19 = some f19.five := by kernel_rfl
theorem l20 : lowFn Tryz.prog 6 fl1 Tryz.f20 = some f20.five := by kernel_rfl
theorem l21 : lowFn Tryz.prog 6 fl1 Tryz.f21 = some f21.five := by kernel_rfl
theorem l22 : lowFn Tryz.prog 6 fl1 Tryz.f22 = some f22.five := by kernel_rfl
theorem l23 : lowFn Tryz.prog 6 fl1 Tryz.f23 = some f23.five := by kernel_rfl
theorem l28 : lowFn Tryz.prog 6 fl1 Tryz.f28 = some f28.five := by kernel_rfl
theorem l29 : lowFn Tryz.prog 6 fl1 Tryz.f29 = some f29.five := by kernel_rfl
theorem l30 : lowFn Tryz.prog 6 fl1 Tryz.f30 = some f30.five := by kernel_rfl
theorem l31 : lowFn Tryz.prog 6 fl1 Tryz.f31 = some f31.five := by kernel_rfl
theorem l32 : lowFn Tryz.prog 6 fl1 Tryz.f32 = some f32.five := by kernel_rfl
theorem l33 : lowFn Tryz.prog 6 fl1 Tryz.f33 = some f33.five := by kernel_rfl
theorem l34 : lowFn Tryz.prog 6 fl1 Tryz.f34 = some f34.five := by kernel_rfl
theorem l36 : lowFn Tryz.prog 6 fl1 Tryz.f36 = some f36.five := by kernel_rfl
theorem l37 : lowFn Tryz.prog 6 fl1 Tryz.f37 = some f37.five := by kernel_rfl
theorem l38 : lowFn Tryz.prog 6 fl1 Tryz.f38 = some f38.five := by kernel_rfl
theorem l39 : lowFn Tryz.prog 6 fl1 Tryz.f39 = some f39.five := by kernel_rfl
theorem l40 : lowFn Tryz.prog 6 fl1 Tryz.f40 = some f40.five := by kernel_rfl
theorem l41 : lowFn Tryz.prog 6 fl1 Tryz.f41 = some f41.five := by kernel_rfl
theorem l42 : lowFn Tryz.prog 6 fl1 Tryz.f42 = some f42.five := by kernel_rfl
theorem l43 : lowFn Tryz.prog 6 fl1 Tryz.f43 = some f43.five := by kernel_rfl
theorem l44 : lowFn Tryz.prog 6 fl1 Tryz.f44 = some f44.five := by kernel_rfl
theorem l45 : lowFn Tryz.prog 6 fl1 Tryz.f45 = some f45.five := by kernel_rfl
theorem l70 : lowFn Tryz.prog 6 fl1 Tryz.f70 = some f70.five := by kernel_rfl
theorem l72 : lowFn Tryz.prog 6 fl1 Tryz.f72 = some f72.five := by kernel_rfl
theorem l73 : lowFn Tryz.prog 6 fl1 Tryz.f73 = some f73.five := by kernel_rfl
theorem l74 : lowFn Tryz.prog 6 fl1 Tryz.f74 = some f74.five := by kernel_rfl
theorem l75 : lowFn Tryz.prog 6 fl1 Tryz.f75 = some f75.five := by kernel_rfl
theorem l76 : lowFn Tryz.prog 6 fl1 Tryz.f76 = some f76.five := by kernel_rfl
theorem l77 : lowFn Tryz.prog 6 fl1 Tryz.f77 = some f77.five := by kernel_rfl
theorem l78 : lowFn Tryz.prog 6 fl1 Tryz.f78 = some f78.five := by kernel_rfl
theorem l140 : lowFn Tryz.prog 6 fl1 Tryz.f140 = some f140.five := by kernel_rfl
theorem l142 : lowFn Tryz.prog 6 fl1 Tryz.f142 = some f142.five := by kernel_rfl
theorem l214 : lowFn Tryz.prog 6 fl1 Tryz.f214 = some f214.five := by kernel_rfl
theorem l288 : lowFn Tryz.prog 6 fl1 Tryz.f288 = some f288.five := by kernel_rfl
end Go.Am.T

namespace Go.Am
open Go.Proofs
theorem FK_all : FK.All Low1 := ⟨⟨_, fl1, Tryz.func33, T.l33⟩, ⟨⟨_, fl1, Tryz.func17, T.l17⟩, ⟨⟨_, fl1, Tryz.func10, T.l10⟩, ⟨⟨_, fl1, Tryz.func6, T.l6⟩, ⟨⟨_, fl1, Tryz.func4, T.l4⟩, ⟨⟨_, fl1, Tryz.func3, T.l3⟩, trivial, trivial⟩, ⟨⟨_, fl1, Tryz.func5, T.l5⟩, trivial, trivial⟩⟩, ⟨⟨_, fl1, Tryz.func8, T.l8⟩, ⟨⟨_, fl1, Tryz.func7, T.l7⟩, trivial, trivial⟩, trivial⟩⟩, ⟨⟨_, fl1, Tryz.func14, T.l14⟩, ⟨⟨_, fl1, Tryz.func12, T.l12⟩, ⟨⟨_, fl1, Tryz.func11, T.l11⟩, trivial, trivial⟩, trivial⟩, ⟨⟨_, fl1, Tryz.func16, T.l16⟩, ⟨⟨_, fl1, Tryz.func15, T.l15⟩, trivial, trivial⟩, trivial⟩⟩⟩, ⟨⟨_, fl1, Tryz.func23, T.l23⟩, ⟨⟨_, fl1, Tryz.func20, T.l20⟩, ⟨⟨_, fl1, Tryz.func19, T.l19⟩, ⟨⟨_, fl1, Tryz.func18, T.l18⟩, trivial, trivial⟩, trivial⟩, ⟨⟨_, fl1, Tryz.func22, T.l22⟩, ⟨⟨_, fl1, Tryz.func21, T.l21⟩, trivial, trivial⟩, trivial⟩⟩, ⟨⟨_, fl1, Tryz.func30, T.l30⟩, ⟨⟨_, fl1, Tryz.func29, T.l29⟩, ⟨⟨_, fl1, Tryz.func28, T.l28⟩, trivial, trivial⟩, trivial⟩, ⟨⟨_, fl1, Tryz.func32, T.l32⟩, ⟨⟨_, fl1, Tryz.func31, T.l31⟩, trivial, trivial⟩, trivial⟩⟩⟩⟩, ⟨⟨_, fl1, Tryz.func70, T.l70⟩, ⟨⟨_, fl1, Tryz.func40, T.l40⟩, ⟨⟨_, fl1, Tryz.func37, T.l37⟩, ⟨⟨_, fl1, Tryz.func36, T.l36⟩, ⟨⟨_, fl1, Tryz.func34, T.l34⟩, trivial, trivial⟩, trivial⟩, ⟨⟨_, fl1, Tryz.func39, T.l39⟩, ⟨⟨_, fl1, Tryz.func38, T.l38⟩, trivial, trivial⟩, trivial⟩⟩, ⟨⟨_, fl1, Tryz.func43, T.l43⟩, ⟨⟨_, fl1, Tryz.func42, T.l42⟩, ⟨⟨_, fl1, Tryz.func41, T.l41⟩, trivial, trivial⟩, trivial⟩, ⟨⟨_, fl1, Tryz.func45, T.l45⟩, ⟨⟨_, fl1, Tryz.func44, T.l44⟩, trivial, trivial⟩, trivial⟩⟩⟩, ⟨⟨_, fl1, Tryz.func77, T.l77⟩, ⟨⟨_, fl1, Tryz.func74, T.l74⟩, ⟨⟨_, fl1, Tryz.func73, T.l73⟩, ⟨⟨_, fl1, Tryz.func72, T.l72⟩, trivial, trivial⟩, trivial⟩, ⟨⟨_, fl1, Tryz.func76, T.l76⟩, ⟨⟨_, fl1, Tryz.func75, T.l75⟩, trivial, trivial⟩, trivial⟩⟩, ⟨⟨_, fl1, Tryz.func142, T.l142⟩, ⟨⟨_, fl1, Tryz.func140, T.l140⟩, ⟨⟨_, fl1, Tryz.func78, T.l78⟩, trivial, trivial⟩, trivial⟩, ⟨⟨_, fl1, Tryz.func288, T.l288⟩, ⟨⟨_, fl1, Tryz.func214, T.l214⟩, trivial, trivial⟩, trivial⟩⟩⟩⟩⟩

theorem EV_ok {k : List AV → St → Option (AV × St)} (hk : SpOk Tryz.prog 6 9 k) : EnvOk Tryz.prog 6 (EV k) := {
  fn := fun f fi h => by
    obtain ⟨fn, fl, h1, h2⟩ := Tr.get_all FK_all (show FK.get f = some fi from h)
    obtain ⟨c, k1, k2, k3, k4, k5, _⟩ := lowFn_spec h2
    exact ⟨fn, c, fl, h1, k1, k2, k3, k4, k5⟩
  sp := fun f h e => by
    simp only [EV] at e
    by_cases c1 : Nat.beq f 9 = true
    · rw [c1] at e; cases e; rw [Nat.eq_of_beq_eq_true c1]; exact hk
    rw [Bool.not_eq_true] at c1; rw [c1, cond_false] at e
    by_cases c1 : Nat.beq f 339 = true
    · rw [c1] at e; cases e; rw [Nat.eq_of_beq_eq_true c1]; exact sp_idxB Tryz.func339 (by kernel_rfl) (by kernel_rfl) (by kernel_rfl) (by kernel_rfl)
    rw [Bool.not_eq_true] at c1; rw [c1, cond_false] at e
    cases e
  dsp := fun f h e => by cases e }
end Go.Am

namespace Go.Am

def Obj.eqb : Obj → Obj → Bool
  | .cells t cs, .cells u ds => Nat.beq t u && AV.eqbL cs ds
  | .ro cs, .ro ds => AV.eqbL cs ds
  | .arr f z cs, .arr g y ds => Nat.beq f g && (Nat.beq z y && AV.eqbL cs ds)
  | .map es, .map ds => AV.eqbL (es.map Prod.fst) (ds.map Prod.fst) && AV.eqbL (es.map Prod.snd) (ds.map Prod.snd)
  | .tail t, .tail u => Nat.beq t u
  | _, _ => false

def objsEqb : List (Nat × Obj) → List (Nat × Obj) → Bool
  | [], [] => true
  | (i, a) :: r, (j, b) :: q => Nat.beq i j && (a.eqb b && objsEqb r q)
  | _, _ => false

def St.eqb (s t : St) : Bool := Nat.beq s.next t.next && objsEqb s.objs t.objs

theorem pairs_eq {α β : Type} : ∀ {a b : List (α × β)}, a.map Prod.fst = b.map Prod.fst → a.map Prod.snd = b.map Prod.snd → a = b
  | [], [], _, _ => rfl
  | [], _ :: _, h, _ => by cases h
  | _ :: _, [], h, _ => by cases h
  | (x, y) :: a, (u, v) :: b, h1, h2 => by
    simp only [List.map_cons, List.cons.injEq] at h1 h2
    rw [h1.1, h2.1, pairs_eq h1.2 h2.2]

theorem Obj.eqb_sound {a b : Obj} (h : a.eqb b = true) : a = b := by
  cases a <;> cases b <;> simp only [Obj.eqb, Bool.and_eq_true] at h <;> try (cases h; done)
  · rw [Nat.eq_of_beq_eq_true h.1, AV.eqbL_sound h.2]
  · rw [AV.eqbL_sound h]
  · rw [Nat.eq_of_beq_eq_true h.1, Nat.eq_of_beq_eq_true h.2.1, AV.eqbL_sound h.2.2]
  · rw [pairs_eq (AV.eqbL_sound h.1) (AV.eqbL_sound h.2)]
  · rw [Nat.eq_of_beq_eq_true h]

theorem objsEqb_sound : ∀ {a b : List (Nat × Obj)}, objsEqb a b = true → a = b
  | [], [], _ => rfl
  | [], _ :: _, h => by cases h
  | _ :: _, [], h => by cases h
  | (i, a) :: r, (j, b) :: q, h => by
    simp only [objsEqb, Bool.and_eq_true] at h
    rw [Nat.eq_of_beq_eq_true h.1, Obj.eqb_sound h.2.1, objsEqb_sound h.2.2]

theorem St.eqb_sound {s t : St} (h : s.eqb t = true) : s = t := by
  simp only [St.eqb, Bool.and_eq_true] at h
  cases s; cases t
  simp only [St.mk.injEq]
  exact ⟨objsEqb_sound h.2, Nat.eq_of_beq_eq_true h.1⟩

/-- A call that has been evaluated: function, arguments, state; value, state. -/
structure Done where
  f : Nat
  args : List AV
  s : St
  v : AV
  s' : St

def Done.ok (d : Done) (E : Env) : Prop := CallsTo E d.f d.args d.s d.v d.s'

def gives (d : Done) : Option (AV × St) → Bool
  | some (v, s) => AV.eqb v d.v && s.eqb d.s'
  | none => false

noncomputable def Done.run (d : Done) (E : Env) (n : Nat) : Bool := gives d (evCallT E (evT E n) d.f d.args d.s)

theorem Done.ok_of_run {d : Done} {E : Env} {n : Nat} (hD : DepOk E) (h : d.run E n = true) : d.ok E := by
  unfold Done.run at h
  generalize hr : evCallT E (evT E n) d.f d.args d.s = r at h
  cases r with
  | none => cases h
  | some p =>
    obtain ⟨v, s⟩ := p
    simp only [gives, Bool.and_eq_true] at h
    have := callsTo_of_fast hD hr
    rw [AV.eqb_sound h.1, St.eqb_sound h.2] at this
    exact this

def findM : List Done → Nat → List AV → St → Option (AV × St)
  | [], _, _, _ => none
  | d :: r, f, args, s => bif Nat.beq f d.f && (AV.eqbL args d.args && s.eqb d.s) then some (d.v, d.s') else findM r f args s

def anyF : List Done → Nat → Bool
  | [], _ => false
  | d :: r, f => Nat.beq f d.f || anyF r f

/-- The environment in which these calls are told. -/
def memoE (l : List Done) : Env := { fn := FT.get, sp := fun f => bif anyF l f then some (findM l f) else spT f, dsp := dspT }

theorem findM_spec : ∀ {l : List Done} {f : Nat} {args : List AV} {s : St} {r : AV × St}, findM l f args s = some r → ∃ d ∈ l, d.f = f ∧ d.args = args ∧ d.s = s ∧ r = (d.v, d.s')
  | [], _, _, _, _, h => by cases h
  | d :: l, f, args, s, r, h => by
    simp only [findM] at h
    cases hc : (Nat.beq f d.f && (AV.eqbL args d.args && s.eqb d.s)) with
    | true =>
      rw [hc] at h; cases h
      simp only [Bool.and_eq_true] at hc
      exact ⟨d, by simp, (Nat.eq_of_beq_eq_true hc.1).symm, (AV.eqbL_sound hc.2.1).symm, (St.eqb_sound hc.2.2).symm, rfl⟩
    | false =>
      rw [hc] at h
      obtain ⟨d', h1, h2⟩ := findM_spec h
      exact ⟨d', by simp [h1], h2⟩

/-- Each of these has been evaluated in an environment that is right. -/
def AllOk (l : List Done) : Prop := ∀ d ∈ l, ∃ E, EnvOk Go.Proofs.Tryz.prog 6 E ∧ d.ok E

theorem AllOk.nil : AllOk [] := fun _ h => by cases h
theorem AllOk.cons {d : Done} {l : List Done} {E : Env} (hE : EnvOk Go.Proofs.Tryz.prog 6 E) (h : d.ok E) (k : AllOk l) : AllOk (d :: l) := by
  intro x hx
  rcases List.mem_cons.1 hx with rfl | hx
  · exact ⟨E, hE, h⟩
  · exact k x hx

theorem memo_ok {l : List Done} (h : AllOk l) : EnvOk Go.Proofs.Tryz.prog 6 (memoE l) :=
  envOk_of rfl (fun f g e => by
    simp only [memoE] at e
    cases ha : anyF l f with
    | false => rw [ha] at e; exact spT_ok e
    | true =>
      rw [ha] at e; cases e
      intro args s v s' G own w us k hR hr
      obtain ⟨d, h1, rfl, rfl, rfl, h5⟩ := findM_spec k
      cases h5
      obtain ⟨E, hE, hd⟩ := h d h1
      exact does_sound hE hd hR hr) rfl

theorem memo_dep {l : List Done} : DepOk (memoE l) := depOk_of rfl

end Go.Am

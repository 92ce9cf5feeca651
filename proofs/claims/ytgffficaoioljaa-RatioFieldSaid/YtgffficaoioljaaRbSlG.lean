import Derived.Test.YtgffficaoioljaaRbSlF
import Derived.Test.YtgffficaoioljaaRbSr9
import Derived.Test.YtgffficaoioljaaRbAbTs
set_option linter.all false
section
namespace Go.Ab
open Go Go.Proofs Go.Proofs.Ytgffficaoioljaa.Pl
set_option maxRecDepth 100000
set_option maxHeartbeats 8000000
theorem call_by0 {P : Program} {B : Nat} {ops : Array Oper} {K : S → Prop} {rest : List Oper} {s : S} {d : Option Tmp} {f : FuncId} {raw ws : List AV} {v : AV} (h : Spec P f ws v) (hK : AOps0 P B ops K rest (put s d v)) : ACall P B ops K rest s d f raw (some (ws, [])) :=
  call_by h hK
theorem dcall_by0 {P : Program} {B : Nat} {ops : Array Oper} {K : List Ent → S → Prop} {rest : List Oper} {L : List Ent} {rd : List Loc} {s : S} {d : Option Tmp} {f : FuncId} {h0 : Nat → AV} {raw ws : List AV} {v : AV} (h : Spec P f ws v) (hK : AOps P B ops K rest (L ++ [(rd, wr d [])]) (put s d v)) : DCall P B ops K rest L rd s d f h0 raw (some (ws, [])) :=
  dcall_by h hK
theorem w_join {P : Program} {B : Nat} {x : Code} {N : S → Prop} {Q : Exit → S → Prop} {s : S} {α : Type} (l : α → List (Loc × AV)) (C : α → Prop) (h1 : ∀ J : S → Prop, (∀ s a, C a → Has (l a) s → J s) → AWP P B x (thenQ J Q) s) (h2 : ∀ a r, C a → N (kn (l a) r)) : AWP P B x (thenQ N Q) s := by
  refine AWP.mono x ?_ (h1 (fun s => ∃ a, C a ∧ Has (l a) s) fun s a hc hh => ⟨a, hc, hh⟩)
  intro e s h
  cases e with
  | normal =>
    obtain ⟨a, hc, hh⟩ := h
    have := h2 a s hc
    rwa [kn_self hh] at this
  | _ => exact h
theorem s_rSame (p q : RT) (hp : p.2.1.length ≤ 4611686018427387904 ∧ p.2.2.length ≤ 4611686018427387904) (hq : q.2.1.length ≤ 4611686018427387904 ∧ q.2.2.length ≤ 4611686018427387904) : Spec Try.prog 53 [RA p.1 p.2.1 p.2.2, RA q.1 q.2.1 q.2.2] (.sc (.bool (decide (p = q)))) := by
  refine spec_of_awp mixed Try.func53 rfl Try.call53 (by kernel_rfl) (by simp) rfl ?_
  obtain ⟨b1, n1, d1⟩ := p
  obtain ⟨b2, n2, d2⟩ := q
  simp only at hp hq ⊢
  have eb : (b1 == b2) = decide (b1 = b2) := by cases b1 <;> cases b2 <;> rfl
  by_cases h1 : b1 = b2
  · subst h1
    refine T (call_by (q_Equal n1 n2 hp.1 hq.1) ?_)
    by_cases h2 : n1 = n2
    · rw [decide_eq_true h2]
      refine T (call_by (q_Equal d1 d2 hp.2 hq.2) ?_)
      refine TR ?_
      rw [show decide (d1 = d2) = decide (((b1, n1, d1) : RT) = (b1, n2, d2)) from decide_eq_decide.2 (by rw [h2]; simp)]
    · rw [decide_eq_false h2]
      refine TR ?_
      rw [decide_eq_false]
      intro h; cases h; exact h2 rfl
  · have e1 : (b1 == b2) = false := by rw [eb, decide_eq_false h1]
    refine T ?_
    rw [e1]
    refine TR ?_
    rw [decide_eq_false]
    intro h; cases h; exact h1 rfl
theorem same_self (p : RT) (h : p.2.1.length ≤ 16 ∧ p.2.2.length ≤ 16) : Spec Try.prog 53 [RA p.1 p.2.1 p.2.2, RA p.1 p.2.1 p.2.2] (.sc (.bool true)) := by
  have := s_rSame p p ⟨by omega, by omega⟩ ⟨by omega, by omega⟩
  rwa [decide_eq_true rfl] at this
theorem l_RatioField (a b c : RT) (ha : RW a) (hb : RW b) (hc : RW c) (la : RL a) (lb : RL b) (lc : RL c) : Spec Try.prog 19 [RA a.1 a.2.1 a.2.2, RA b.1 b.2.1 b.2.2, RA c.1 c.2.1 c.2.2] (.sc (.bool true)) := by
  refine spec_of_awp mixed Try.func19 rfl Try.call19 (by kernel_rfl) (by simp) rfl ?_
  refine T (call_by wakes2 ?_)
  have fA := s_Form a.1 a.2.1 a.2.2 ha.wn ha.wd ha.ln ha.ld
  have fB := s_Form b.1 b.2.1 b.2.2 hb.wn hb.wd hb.ln hb.ld
  have fC := s_Form c.1 c.2.1 c.2.2 hc.wn hc.wd hc.ln hc.ld
  rw [show formB a.1 a.2.1 a.2.2 = formR a from rfl] at fA
  rw [show formB b.1 b.2.1 b.2.2 = formR b from rfl] at fB
  rw [show formB c.1 c.2.1 c.2.2 = formR c from rfl] at fC
  refine T (call_by0 (q2_own a la) ?_)
  refine T (call_by0 fA ?_)
  by_cases hx : formR a = true
  case neg =>
    rw [Bool.eq_false_iff.2 hx]
    simp only [put, appH_nil, List.map_nil]
    refine a_forget [(.t 3, .hp 3 1 0), (.h 3, rb a), (.t 4, .hp 4 1 0), (.h 4, rb b), (.t 5, .hp 5 1 0), (.h 5, rb c), (.h 7, .blk 0 0 []), (.t 32, .sc (.bool false))] Hv fun r => ?_
    refine T (dcall_by0 (q2_own a la) ?_)
    refine T (dcall_by0 (q2_own b lb) ?_)
    refine T (dcall_by0 (q2_own c lc) ?_)
    refine T (dcall_by (s_Sum [a, b, c] (by simp) (by simp [ha, hb, hc])) ?_)
    rw [show foldL false r0 [a, b, c] = ((false, [], []), 20) from if_neg (by simp [hx])]
    exact TR rfl
  have h1 := hx
  clear hx
  rw [h1]
  refine T (call_by0 (q2_own b lb) ?_)
  refine T (call_by0 fB ?_)
  by_cases hx : formR b = true
  case neg =>
    rw [Bool.eq_false_iff.2 hx]
    simp only [put, appH_nil, List.map_nil]
    refine a_forget [(.t 3, .hp 3 1 0), (.h 3, rb a), (.t 4, .hp 4 1 0), (.h 4, rb b), (.t 5, .hp 5 1 0), (.h 5, rb c), (.h 7, .blk 0 0 []), (.t 34, .sc (.bool false)), (.t 37, .sc (.bool false))] Hv fun r => ?_
    refine T (dcall_by0 (q2_own a la) ?_)
    refine T (dcall_by0 (q2_own b lb) ?_)
    refine T (dcall_by0 (q2_own c lc) ?_)
    refine T (dcall_by (s_Sum [a, b, c] (by simp) (by simp [ha, hb, hc])) ?_)
    rw [show foldL false r0 [a, b, c] = ((false, [], []), 20) from if_neg (by simp [hx])]
    exact TR rfl
  have h2 := hx
  clear hx
  rw [h2]
  refine T (call_by0 (q2_own c lc) ?_)
  refine T (call_by0 fC ?_)
  by_cases hx : formR c = true
  case neg =>
    rw [Bool.eq_false_iff.2 hx]
    simp only [put, appH_nil, List.map_nil]
    refine a_forget [(.t 3, .hp 3 1 0), (.h 3, rb a), (.t 4, .hp 4 1 0), (.h 4, rb b), (.t 5, .hp 5 1 0), (.h 5, rb c), (.h 7, .blk 0 0 []), (.t 40, .sc (.bool false)), (.t 43, .sc (.bool false))] Hv fun r => ?_
    refine T (dcall_by0 (q2_own a la) ?_)
    refine T (dcall_by0 (q2_own b lb) ?_)
    refine T (dcall_by0 (q2_own c lc) ?_)
    refine T (dcall_by (s_Sum [a, b, c] (by simp) (by simp [ha, hb, hc])) ?_)
    rw [show foldL false r0 [a, b, c] = ((false, [], []), 20) from if_neg (by simp [hx])]
    exact TR rfl
  have h3 := hx
  clear hx
  rw [h3]
  simp only [put, appH_nil, List.map_nil]
  refine a_forget [(.t 3, .hp 3 1 0), (.h 3, rb a), (.t 4, .hp 4 1 0), (.h 4, rb b), (.t 5, .hp 5 1 0), (.h 5, rb c), (.h 9, .blk 0 0 []), (.h 11, .blk 0 0 []), (.h 13, .blk 0 0 []), (.h 15, .blk 0 0 []), (.h 17, .blk 0 0 []), (.h 19, .blk 0 0 []), (.h 21, .blk 0 0 []), (.h 23, .blk 0 0 []), (.h 24, .blk 0 0 []), (.h 25, .blk 0 0 []), (.h 26, .blk 0 0 []), (.t 40, .sc (.bool false)), (.t 43, .sc (.bool true))] Hv fun r => ?_
  have ma := RM.of ha h1
  have mb := RM.of hb h2
  have mc := RM.of hc h3
  have tl := turn_len ha.wn ha.wd h1
  have tf := turn_form ha.wn ha.wd h1
  have tw := turn_W a tl
  have e1 : ifF a b (addR a b) = addR a b := if_pos (by rw [h1, h2]; rfl)
  have e2 : ifF b a (addR b a) = addR a b := by rw [ifF, if_pos (by rw [h1, h2]; rfl), add_comm' b a mb ma]
  have e3 : ifF a b (mulR a b) = mulR a b := if_pos (by rw [h1, h2]; rfl)
  have e4 : ifF b a (mulR b a) = mulR a b := by rw [ifF, if_pos (by rw [h1, h2]; rfl), mul_comm' b a mb ma]
  have e5 : negR a = (turnR a, 0) := if_pos h1
  have e6 : ifF a (turnR a) (addR a (turnR a)) = (r0, 0) := by rw [ifF, if_pos (by rw [h1, tf]; rfl), add_turn ha h1]
  have e7 : ifF b c (addR b c) = addR b c := if_pos (by rw [h2, h3]; rfl)
  have e8 : ifF a c (mulR a c) = mulR a c := if_pos (by rw [h1, h3]; rfl)
  have hD := div_mul ha hb h1 h2
  have hX := dist ha hb hc h1 h2 h3
  have Ms := opR_M false b c
  have Mm := opR_M true a b
  have Mu := opR_M true a c
  have Fs := opR_form (t := false) mb mc
  have Fm := opR_form (t := true) ma mb
  have Fu := opR_form (t := true) ma mc
  rw [show opR false b c = addR b c from rfl] at Ms Fs
  rw [show opR true a b = mulR a b from rfl] at Mm Fm
  rw [show opR true a c = mulR a c from rfl] at Mu Fu
  have z1 := addR_len a b
  have lr0 : r0.2.1.length ≤ 16 ∧ r0.2.2.length ≤ 16 := by decide
  have lla : a.2.1.length ≤ 16 ∧ a.2.2.length ≤ 16 := ⟨ma.ln, ma.ld⟩
  clear fA fB fC tl tf
  replace e1 := Hd.mk e1
  replace e2 := Hd.mk e2
  replace e3 := Hd.mk e3
  replace e4 := Hd.mk e4
  replace e5 := Hd.mk e5
  replace e6 := Hd.mk e6
  replace e7 := Hd.mk e7
  replace e8 := Hd.mk e8
  replace hD := Hd.mk hD
  replace hX := Hd.mk hX
  replace Fs := Hd.mk Fs
  replace Fm := Hd.mk Fm
  replace Fu := Hd.mk Fu
  replace z1 := Hd.mk z1
  replace lr0 := Hd.mk lr0
  replace lla := Hd.mk lla
  refine TS ?_
  refine w_cut (α := Unit) (fun _ => [(.t 3, .hp 3 1 0), (.h 3, rb a), (.t 4, .hp 4 1 0), (.h 4, rb b), (.t 5, .hp 5 1 0), (.h 5, rb c), (.t 9, .hp 9 1 0), (.h 9, rb (addR a b).1), (.t 10, .sc (.int .i64 (addR a b).2)), (.h 11, .blk 0 0 []), (.h 13, .blk 0 0 []), (.h 15, .blk 0 0 []), (.h 17, .blk 0 0 []), (.h 19, .blk 0 0 []), (.h 21, .blk 0 0 []), (.h 23, .blk 0 0 []), (.h 24, .blk 0 0 []), (.h 25, .blk 0 0 []), (.h 26, .blk 0 0 [])]) (fun _ => True) ?_ ?_
  · intro J hJ
    refine T (dcall_by0 (q2_own a la) ?_)
    refine T (dcall_by0 (q2_own b lb) ?_)
    refine T (dcall_by0 (s_rAdd a b ha hb) ?_)
    rw [e1.out]
    refine T ?_
    exact hJ _ () trivial Hv
  rintro ⟨⟩ r _
  refine w_cut (α := Unit) (fun _ => [(.t 3, .hp 3 1 0), (.h 3, rb a), (.t 4, .hp 4 1 0), (.h 4, rb b), (.t 5, .hp 5 1 0), (.h 5, rb c), (.t 9, .hp 9 1 0), (.h 9, rb (addR a b).1), (.t 10, .sc (.int .i64 (addR a b).2)), (.t 11, .hp 11 1 0), (.h 11, rb (addR a b).1), (.t 12, .sc (.int .i64 (addR a b).2)), (.h 13, .blk 0 0 []), (.h 15, .blk 0 0 []), (.h 17, .blk 0 0 []), (.h 19, .blk 0 0 []), (.h 21, .blk 0 0 []), (.h 23, .blk 0 0 []), (.h 24, .blk 0 0 []), (.h 25, .blk 0 0 []), (.h 26, .blk 0 0 [])]) (fun _ => True) ?_ ?_
  · intro J hJ
    refine T (dcall_by0 (q2_own b lb) ?_)
    refine T (dcall_by0 (q2_own a la) ?_)
    refine T (dcall_by0 (s_rAdd b a hb ha) ?_)
    rw [e2.out]
    refine T ?_
    exact hJ _ () trivial Hv
  rintro ⟨⟩ r _
  refine w_cut (α := Unit) (fun _ => [(.t 3, .hp 3 1 0), (.h 3, rb a), (.t 4, .hp 4 1 0), (.h 4, rb b), (.t 5, .hp 5 1 0), (.h 5, rb c), (.t 9, .hp 9 1 0), (.h 9, rb (addR a b).1), (.t 10, .sc (.int .i64 (addR a b).2)), (.t 11, .hp 11 1 0), (.h 11, rb (addR a b).1), (.t 12, .sc (.int .i64 (addR a b).2)), (.t 13, .hp 13 1 0), (.h 13, rb (mulR a b).1), (.t 14, .sc (.int .i64 (mulR a b).2)), (.h 15, .blk 0 0 []), (.h 17, .blk 0 0 []), (.h 19, .blk 0 0 []), (.h 21, .blk 0 0 []), (.h 23, .blk 0 0 []), (.h 24, .blk 0 0 []), (.h 25, .blk 0 0 []), (.h 26, .blk 0 0 [])]) (fun _ => True) ?_ ?_
  · intro J hJ
    refine T (dcall_by0 (q2_own a la) ?_)
    refine T (dcall_by0 (q2_own b lb) ?_)
    refine T (dcall_by0 (s_rMul a b ha hb) ?_)
    rw [e3.out]
    refine T ?_
    exact hJ _ () trivial Hv
  rintro ⟨⟩ r _
  refine w_cut (α := Unit) (fun _ => [(.t 3, .hp 3 1 0), (.h 3, rb a), (.t 4, .hp 4 1 0), (.h 4, rb b), (.t 5, .hp 5 1 0), (.h 5, rb c), (.t 9, .hp 9 1 0), (.h 9, rb (addR a b).1), (.t 10, .sc (.int .i64 (addR a b).2)), (.t 11, .hp 11 1 0), (.h 11, rb (addR a b).1), (.t 12, .sc (.int .i64 (addR a b).2)), (.t 13, .hp 13 1 0), (.h 13, rb (mulR a b).1), (.t 14, .sc (.int .i64 (mulR a b).2)), (.t 15, .hp 15 1 0), (.h 15, rb (mulR a b).1), (.t 16, .sc (.int .i64 (mulR a b).2)), (.h 17, .blk 0 0 []), (.h 19, .blk 0 0 []), (.h 21, .blk 0 0 []), (.h 23, .blk 0 0 []), (.h 24, .blk 0 0 []), (.h 25, .blk 0 0 []), (.h 26, .blk 0 0 [])]) (fun _ => True) ?_ ?_
  · intro J hJ
    refine T (dcall_by0 (q2_own b lb) ?_)
    refine T (dcall_by0 (q2_own a la) ?_)
    refine T (dcall_by0 (s_rMul b a hb ha) ?_)
    rw [e4.out]
    refine T ?_
    exact hJ _ () trivial Hv
  rintro ⟨⟩ r _
  refine w_cut (α := Unit) (fun _ => [(.t 3, .hp 3 1 0), (.h 3, rb a), (.t 4, .hp 4 1 0), (.h 4, rb b), (.t 5, .hp 5 1 0), (.h 5, rb c), (.t 13, .hp 13 1 0), (.h 13, rb (mulR a b).1), (.t 14, .sc (.int .i64 (mulR a b).2)), (.t 110, .sc (.bool false)), (.h 17, .blk 0 0 []), (.h 19, .blk 0 0 []), (.h 21, .blk 0 0 []), (.h 23, .blk 0 0 []), (.h 24, .blk 0 0 []), (.h 25, .blk 0 0 []), (.h 26, .blk 0 0 [])]) (fun _ => True) ?_ ?_
  · intro J hJ
    refine T ?_
    simp only [not_true_eq_false, decide_false]
    refine T (call_by0 (same_self (addR a b).1 z1.out) ?_)
    refine T ?_
    simp only [not_true_eq_false, decide_false]
    refine T (call_by0 (same_self (mulR a b).1 ⟨Mm.ln, Mm.ld⟩) ?_)
    refine T ?_
    exact hJ _ () trivial Hv
  rintro ⟨⟩ r _
  refine TS ?_
  refine w_cut (α := Unit) (fun _ => [(.t 3, .hp 3 1 0), (.h 3, rb a), (.t 4, .hp 4 1 0), (.h 4, rb b), (.t 5, .hp 5 1 0), (.h 5, rb c), (.t 13, .hp 13 1 0), (.h 13, rb (mulR a b).1), (.t 14, .sc (.int .i64 (mulR a b).2)), (.t 17, .hp 17 1 0), (.h 17, rb (turnR a)), (.t 18, .sc (.int .i64 0)), (.h 19, .blk 0 0 []), (.h 21, .blk 0 0 []), (.h 23, .blk 0 0 []), (.h 24, .blk 0 0 []), (.h 25, .blk 0 0 []), (.h 26, .blk 0 0 [])]) (fun _ => True) ?_ ?_
  · intro J hJ
    refine T (call_by0 (q2_own a la) ?_)
    refine T (call_by0 (s_rNeg a ha) ?_)
    rw [e5.out]
    refine T ?_
    exact hJ _ () trivial Hv
  rintro ⟨⟩ r _
  refine w_cut (α := Unit) (fun _ => [(.t 3, .hp 3 1 0), (.h 3, rb a), (.t 4, .hp 4 1 0), (.h 4, rb b), (.t 5, .hp 5 1 0), (.h 5, rb c), (.t 13, .hp 13 1 0), (.h 13, rb (mulR a b).1), (.t 14, .sc (.int .i64 (mulR a b).2)), (.t 18, .sc (.int .i64 0)), (.t 19, .hp 19 1 0), (.h 19, rb r0), (.t 20, .sc (.int .i64 0)), (.h 21, .blk 0 0 []), (.h 23, .blk 0 0 []), (.h 24, .blk 0 0 []), (.h 25, .blk 0 0 []), (.h 26, .blk 0 0 [])]) (fun _ => True) ?_ ?_
  · intro J hJ
    refine T (dcall_by0 (q2_own a la) ?_)
    refine T (dcall_by0 (s_rAdd a (turnR a) ha tw) ?_)
    rw [e6.out]
    refine T ?_
    exact hJ _ () trivial Hv
  rintro ⟨⟩ r _
  refine w_cut (α := Unit) (fun _ => [(.t 3, .hp 3 1 0), (.h 3, rb a), (.t 4, .hp 4 1 0), (.h 4, rb b), (.t 5, .hp 5 1 0), (.h 5, rb c), (.t 13, .hp 13 1 0), (.h 13, rb (mulR a b).1), (.t 14, .sc (.int .i64 (mulR a b).2)), (.t 135, .sc (.bool false)), (.h 21, .blk 0 0 []), (.h 23, .blk 0 0 []), (.h 24, .blk 0 0 []), (.h 25, .blk 0 0 []), (.h 26, .blk 0 0 [])]) (fun _ => True) ?_ ?_
  · intro J hJ
    refine T ?_
    simp only [not_true_eq_false, decide_false]
    refine T ?_
    simp only [not_true_eq_false, decide_false]
    refine T (dcall_by0 of0 ?_)
    refine T (dcall_by0 (same_self r0 lr0.out) ?_)
    refine T ?_
    exact hJ _ () trivial Hv
  rintro ⟨⟩ r _
  refine TS ?_
  refine w_cut (α := Bool) (fun t => [(.t 3, .hp 3 1 0), (.h 3, rb a), (.t 4, .hp 4 1 0), (.h 4, rb b), (.t 5, .hp 5 1 0), (.h 5, rb c), (.t 13, .hp 13 1 0), (.h 13, rb (mulR a b).1), (.t 14, .sc (.int .i64 (mulR a b).2)), (.t 143, .sc (.bool t)), (.h 21, .blk 0 0 []), (.h 23, .blk 0 0 []), (.h 24, .blk 0 0 []), (.h 25, .blk 0 0 []), (.h 26, .blk 0 0 [])]) (fun t => t = true → (mulR a b).2 = 0 ∧ b.2.1.length ≠ 0) ?_ ?_
  · intro J hJ
    by_cases y1 : (mulR a b).2 = 0
    · by_cases y2 : b.2.1.length = 0
      · refine T ?_
        exact hJ _ false (fun h => by cases h) Hv
      · refine T ?_
        exact hJ _ true (fun _ => ⟨y1, y2⟩) Hv
    · refine T ?_
      exact hJ _ false (fun h => by cases h) Hv
  rintro t r hy
  refine w_join (α := Unit) (fun _ => [(.t 3, .hp 3 1 0), (.h 3, rb a), (.t 4, .hp 4 1 0), (.h 4, rb b), (.t 5, .hp 5 1 0), (.h 5, rb c), (.t 13, .hp 13 1 0), (.h 13, rb (mulR a b).1), (.t 14, .sc (.int .i64 (mulR a b).2)), (.h 23, .blk 0 0 []), (.h 24, .blk 0 0 []), (.h 25, .blk 0 0 []), (.h 26, .blk 0 0 [])]) (fun _ => True) ?_ ?_
  · intro J hJ
    cases t with
    | false =>
      refine T ?_
      exact hJ _ () trivial Hv
    | true =>
      obtain ⟨y1, y2⟩ := hy rfl
      have e9 : Hd (ifF (mulR a b).1 b (divR (mulR a b).1 b) = (a, 0)) := ⟨by rw [ifF, if_pos (by rw [Fm.out y1, h2]; rfl), hD.out y2 y1]⟩
      refine TS ?_
      refine w_cut (α := Unit) (fun _ => [(.t 3, .hp 3 1 0), (.h 3, rb a), (.t 4, .hp 4 1 0), (.h 4, rb b), (.t 5, .hp 5 1 0), (.h 5, rb c), (.t 13, .hp 13 1 0), (.h 13, rb (mulR a b).1), (.t 14, .sc (.int .i64 (mulR a b).2)), (.t 21, .hp 21 1 0), (.h 21, rb a), (.t 22, .sc (.int .i64 0)), (.h 23, .blk 0 0 []), (.h 24, .blk 0 0 []), (.h 25, .blk 0 0 []), (.h 26, .blk 0 0 [])]) (fun _ => True) ?_ ?_
      · intro J hJ
        refine T (dcall_by0 (q2_own b lb) ?_)
        refine T (dcall_by0 (s_rDiv (mulR a b).1 b Mm.rw hb) ?_)
        rw [e9.out]
        refine T ?_
        exact hJ _ () trivial Hv
      rintro ⟨⟩ r _
      refine T ?_
      simp only [not_true_eq_false, decide_false]
      refine T (dcall_by0 (q2_own a la) ?_)
      refine T (dcall_by0 (same_self a lla.out) ?_)
      refine T ?_
      exact hJ _ () trivial Hv
  rintro ⟨⟩ r _
  refine w_cut (α := Unit) (fun _ => [(.t 3, .hp 3 1 0), (.h 3, rb a), (.t 4, .hp 4 1 0), (.h 4, rb b), (.t 5, .hp 5 1 0), (.h 5, rb c), (.t 13, .hp 13 1 0), (.h 13, rb (mulR a b).1), (.t 14, .sc (.int .i64 (mulR a b).2)), (.t 23, .hp 23 1 0), (.h 23, rb (addR b c).1), (.t 10, .sc (.int .i64 (addR b c).2)), (.h 24, .blk 0 0 []), (.h 25, .blk 0 0 []), (.h 26, .blk 0 0 [])]) (fun _ => True) ?_ ?_
  · intro J hJ
    refine T (dcall_by0 (q2_own b lb) ?_)
    refine T (dcall_by0 (q2_own c lc) ?_)
    refine T (dcall_by0 (s_rAdd b c hb hc) ?_)
    rw [e7.out]
    refine T ?_
    exact hJ _ () trivial Hv
  rintro ⟨⟩ r _
  generalize hf : ifF a (addR b c).1 (mulR a (addR b c).1) = f
  refine w_cut (α := Unit) (fun _ => [(.t 3, .hp 3 1 0), (.h 3, rb a), (.t 4, .hp 4 1 0), (.h 4, rb b), (.t 5, .hp 5 1 0), (.h 5, rb c), (.t 13, .hp 13 1 0), (.h 13, rb (mulR a b).1), (.t 14, .sc (.int .i64 (mulR a b).2)), (.t 10, .sc (.int .i64 (addR b c).2)), (.t 24, .hp 24 1 0), (.h 24, rb f.1), (.t 12, .sc (.int .i64 f.2)), (.h 25, .blk 0 0 []), (.h 26, .blk 0 0 [])]) (fun _ => True) ?_ ?_
  · intro J hJ
    refine T (dcall_by0 (q2_own a la) ?_)
    refine T (dcall_by0 (s_rMul a (addR b c).1 ha Ms.rw) ?_)
    rw [hf]
    refine T ?_
    exact hJ _ () trivial Hv
  rintro ⟨⟩ r _
  refine w_cut (α := Unit) (fun _ => [(.t 13, .hp 13 1 0), (.h 13, rb (mulR a b).1), (.t 14, .sc (.int .i64 (mulR a b).2)), (.t 10, .sc (.int .i64 (addR b c).2)), (.t 24, .hp 24 1 0), (.h 24, rb f.1), (.t 12, .sc (.int .i64 f.2)), (.t 25, .hp 25 1 0), (.h 25, rb (mulR a c).1), (.t 16, .sc (.int .i64 (mulR a c).2)), (.h 26, .blk 0 0 [])]) (fun _ => True) ?_ ?_
  · intro J hJ
    refine T (dcall_by0 (q2_own a la) ?_)
    refine T (dcall_by0 (q2_own c lc) ?_)
    refine T (dcall_by0 (s_rMul a c ha hc) ?_)
    rw [e8.out]
    refine T ?_
    exact hJ _ () trivial Hv
  rintro ⟨⟩ r _
  generalize hk : ifF (mulR a b).1 (mulR a c).1 (addR (mulR a b).1 (mulR a c).1) = k
  refine w_cut (α := Unit) (fun _ => [(.t 14, .sc (.int .i64 (mulR a b).2)), (.t 10, .sc (.int .i64 (addR b c).2)), (.t 24, .hp 24 1 0), (.h 24, rb f.1), (.t 12, .sc (.int .i64 f.2)), (.t 16, .sc (.int .i64 (mulR a c).2)), (.t 26, .hp 26 1 0), (.h 26, rb k.1), (.t 27, .sc (.int .i64 k.2))]) (fun _ => True) ?_ ?_
  · intro J hJ
    refine T (call_by0 (s_rAdd (mulR a b).1 (mulR a c).1 Mm.rw Mu.rw) ?_)
    rw [hk]
    refine T ?_
    exact hJ _ () trivial Hv
  rintro ⟨⟩ r _
  by_cases x1 : (addR b c).2 = 0
  case neg => exact TR rfl
  by_cases x2 : f.2 = 0
  case neg => exact TR rfl
  by_cases x3 : (mulR a b).2 = 0
  case neg => exact TR rfl
  by_cases x4 : (mulR a c).2 = 0
  case neg => exact TR rfl
  by_cases x5 : k.2 = 0
  case neg => exact TR rfl
  have q1 : f = mulR a (addR b c).1 := by rw [← hf, ifF, if_pos (by rw [h1, Fs.out x1]; rfl)]
  have q2 : k = addR (mulR a b).1 (mulR a c).1 := by rw [← hk, ifF, if_pos (by rw [Fm.out x3, Fu.out x4]; rfl)]
  have q3 : f = k := by rw [q1, q2]; exact hX.out x1 x3 x4
  have q4 : f.1.2.1.length ≤ 16 ∧ f.1.2.2.length ≤ 16 := by rw [q1]; exact mulR_len _ _
  rw [← q3]
  refine T (call_by0 (same_self f.1 q4) ?_)
  exact TR rfl
end Go.Ab
end

import Derived.Test.YtgffficaoioljaaRa10
import Derived.Test.YtgffficaoioljaaRa9
import Derived.Test.YtgffficaoioljaaRa6
import Derived.Test.YtgffficaoioljaaRows
set_option linter.all false
section
namespace Go.Ab
open Go Go.Proofs Go.Proofs.Ytgffficaoioljaa.Pl
set_option maxRecDepth 100000
def RL (p : RT) : Prop := p.2.1.length ≤ 35184372088832 ∧ p.2.2.length ≤ 35184372088832
theorem typed_bool {k : Nat} {ws : List AV} (h : Typed Try.prog k 4 ws) : ∃ b, ws = [.sc (.bool b)] := by
  cases k with
  | zero => exact h.elim
  | succ k => simpa only [Typed, Try.underlying4] using h
theorem typed_u32 {k : Nat} {ws : List AV} (h : Typed Try.prog k 47 ws) : ∃ z : Int, ws = [u32 z] ∧ 0 ≤ z ∧ z < 4294967296 := by
  cases k with
  | zero => exact h.elim
  | succ k =>
    simp only [Typed, Try.underlying47] at h
    obtain ⟨z, rfl, hz⟩ := h
    refine ⟨z, rfl, ?_⟩
    simp [Lit.wf, IntKind.min, IntKind.max, IntKind.signed, IntKind.bits] at hz
    omega
theorem typed_U {k : Nat} {ws : List AV} (h : Typed Try.prog k 22 ws) : ∃ l : List Int, ws = [U l] ∧ Wf l ∧ l.length * 4 ≤ reachBytes := by
  cases k with
  | zero => exact h.elim
  | succ k =>
    simp only [Typed, Try.underlying22] at h
    obtain ⟨css, rfl, hl, hc⟩ := h
    have key : ∀ css : List (List AV), (∀ c ∈ css, c.length = Try.prog.cellsOf 47 ∧ Typed Try.prog k 47 c) → ∃ l : List Int, css.flatten = l.map u32 ∧ l.length = css.length ∧ Wf l := by
      intro css
      induction css with
      | nil => exact fun _ => ⟨[], rfl, rfl, Wf.nil⟩
      | cons c css ih =>
        intro hc
        obtain ⟨l, h1, h2, h3⟩ := ih fun c hcc => hc c (by simp [hcc])
        obtain ⟨z, rfl, h4, h5⟩ := typed_u32 (hc c (by simp)).2
        exact ⟨z :: l, by simp [h1], by simp [h2], Wf.cons h4 h5 h3⟩
    obtain ⟨l, h1, h2, h3⟩ := key css hc
    refine ⟨l, by rw [h1, ← h2], h3, ?_⟩
    rw [h2]
    have : Try.prog.bytesOf 47 = 4 := by kernel_rfl
    rw [this] at hl
    exact hl
theorem typed_RA {k : Nat} {ws : List AV} (h : Typed Try.prog k 50 ws) : ∃ p : RT, ws = rc p ∧ RW p ∧ RL p := by
  cases k with
  | zero => exact h.elim
  | succ k =>
    simp only [Typed, Try.underlying50] at h
    obtain ⟨h1, h2⟩ := h
    have c0 : Try.prog.cellsOf 4 = 1 := by kernel_rfl
    have c1 : Try.prog.cellsOf 22 = 1 := by kernel_rfl
    have c2 : Try.prog.cellsOf 50 = 3 := by kernel_rfl
    rw [c2] at h1
    match ws, h1 with
    | [x, y, z], _ =>
      have g0 := h2 _ (List.mem_cons_self)
      have g1 := h2 _ (List.mem_cons_of_mem _ (List.mem_cons_self))
      have g2 := h2 _ (List.mem_cons_of_mem _ (List.mem_cons_of_mem _ (List.mem_cons_self)))
      simp only [c0, c1] at g0 g1 g2
      obtain ⟨b, e0⟩ := typed_bool g0
      obtain ⟨n, e1, wn, ln⟩ := typed_U g1
      obtain ⟨d, e2, wd, ld⟩ := typed_U g2
      cases e0
      cases e1
      cases e2
      have hr : reachBytes = 140737488351232 := by decide
      rw [hr] at ln ld
      exact ⟨(b, n, d), rfl, ⟨wn, wd, by show n.length ≤ _; omega, by show d.length ≤ _; omega⟩, by show n.length ≤ _; omega, by show d.length ≤ _; omega⟩
theorem top_RA {k : Nat} {x : AV} (h : Top Try.prog k 50 x) : ∃ p : RT, x = RA p.1 p.2.1 p.2.2 ∧ RW p ∧ RL p := by
  simp only [Top, Try.underlying50] at h
  obtain ⟨ws, rfl, ht⟩ := h
  obtain ⟨p, rfl, h1, h2⟩ := typed_RA ht
  exact ⟨p, rfl, h1, h2⟩
end Go.Ab
end
section
namespace Go.Ab
open Go Go.Proofs Go.Proofs.Ytgffficaoioljaa.Pl
set_option maxRecDepth 100000
set_option maxHeartbeats 8000000
theorem mkR_len (b : Bool) (u v : Int) : (mkR b u v).1.2.1.length ≤ 16 ∧ (mkR b u v).1.2.2.length ≤ 16 := by
  unfold mkR
  split
  · simp
  · split
    · simp
    · split
      · rename_i h; exact h
      · simp
theorem ifF_len (p q : RT) (r : RT × Int) (h : r.1.2.1.length ≤ 16 ∧ r.1.2.2.length ≤ 16) : (ifF p q r).1.2.1.length ≤ 16 ∧ (ifF p q r).1.2.2.length ≤ 16 := by
  unfold ifF
  split
  · exact h
  · simp
theorem mulR_len (p q : RT) : (mulR p q).1.2.1.length ≤ 16 ∧ (mulR p q).1.2.2.length ≤ 16 := mkR_len _ _ _
theorem divR_len (p q : RT) : (divR p q).1.2.1.length ≤ 16 ∧ (divR p q).1.2.2.length ≤ 16 := by
  unfold divR
  split
  · simp
  · exact mkR_len _ _ _
theorem a_forget {P : Program} {B : Nat} {ops : Array Oper} {K : S → Prop} {rest : List Oper} {s : S} (l : List (Loc × AV)) (h : Has l s) (hK : ∀ r, AOps0 P B ops K rest (kn l r)) : AOps0 P B ops K rest s := by
  have := hK s
  rwa [kn_self h] at this
theorem d_forget {P : Program} {B : Nat} {ops : Array Oper} {K : List Ent → S → Prop} {rest : List Oper} {L : List Ent} {s : S} (l : List (Loc × AV)) (h : Has l s) (hK : ∀ r, AOps P B ops K rest L (kn l r)) : AOps P B ops K rest L s := by
  have := hK s
  rwa [kn_self h] at this
abbrev rb (p : RT) : AV := .blk 1 2 [.sc (.bool p.1), U p.2.1, U p.2.2]
theorem l_RatioProducts (p q : RT) (hp : RW p) (hq : RW q) (lp : RL p) (lq : RL q) : Spec Try.prog 15 [RA p.1 p.2.1 p.2.2, RA q.1 q.2.1 q.2.2] (.sc (.bool true)) := by
  refine spec_of_awp mixed Try.func15 rfl Try.call15 (by kernel_rfl) (by simp) rfl ?_
  refine T (call_by wakes2 ?_)
  refine T (dcall_by (q2_own p lp) ?_)
  refine T (dcall_by (q2_own q lq) ?_)
  refine T (dcall_by (s_rMul p q hp hq) ?_)
  refine T (call_by (q2_Mul p q hp hq) ?_)
  have z1 := ifF_len p q _ (mulR_len p q)
  have z2 := ifF_len p q _ (divR_len p q)
  generalize ifF p q (mulR p q) = r1 at *
  obtain ⟨⟨b1, n1, d1⟩, e1⟩ := r1
  simp only [put, appH_nil, List.map_nil]
  refine a_forget [(.t 2, .hp 2 1 0), (.h 2, rb p), (.t 3, .hp 3 1 0), (.h 3, rb q), (.t 5, .hp 5 1 0), (.h 5, rb (b1, n1, d1)), (.t 6, .sc (.int .i64 e1)), (.t 26, resR ((b1, n1, d1), e1)), (.h 7, .blk 0 0 []), (.h 9, .blk 0 0 []), (.h 11, .blk 0 0 [])] Hv fun r => ?_
  refine T (dcall_by (q2_own p lp) ?_)
  refine T (dcall_by (q2_own q lq) ?_)
  refine T (dcall_by (s_rDiv p q hp hq) ?_)
  refine T (call_by (q2_Div p q hp hq) ?_)
  generalize ifF p q (divR p q) = r2 at *
  obtain ⟨⟨b2, n2, d2⟩, e2⟩ := r2
  simp only [put, appH_nil, List.map_nil]
  refine a_forget [(.t 5, .hp 5 1 0), (.h 5, rb (b1, n1, d1)), (.t 6, .sc (.int .i64 e1)), (.t 7, .hp 7 1 0), (.h 7, rb (b1, n1, d1)), (.t 8, .sc (.int .i64 e1)), (.t 9, .hp 9 1 0), (.h 9, rb (b2, n2, d2)), (.t 10, .sc (.int .i64 e2)), (.t 40, resR ((b2, n2, d2), e2)), (.h 11, .blk 0 0 [])] Hv fun r => ?_
  simp only at z1 z2
  refine T (call_by (q2_Same (b1, n1, d1) (b1, n1, d1) ⟨by simp only; omega, by simp only; omega⟩ ⟨by simp only; omega, by simp only; omega⟩) ?_)
  rw [decide_eq_true rfl]
  refine T (call_by (q2_Same (b2, n2, d2) (b2, n2, d2) ⟨by simp only; omega, by simp only; omega⟩ ⟨by simp only; omega, by simp only; omega⟩) ?_)
  rw [decide_eq_true rfl]
  exact TR rfl
end Go.Ab
end
section
namespace Go.Proofs.Ytgffficaoioljaa.ratioProducts
open Go.ChangeShapes Go.WideShapes Go.ChangeAt Go.RowKit
set_option linter.unusedVariables false
theorem own : ownKnob Try.prog.godebug = none := by kernel_rfl
theorem laidOut : laidOutB Try.prog = true := by kernel_rfl
set_option maxRecDepth 100000 in
theorem lifted (os : Os) (started : os.Started) (H : Type) (enc : TypeId × Value → H) :
    ReturnsInHanded {} Try.checked os 15 .any (Rows.ratioProductsSpec.pre6 enc Try.prog Try.f15 Rows.ratioProductsRow.domain false) (Rows.ratioProductsSpec.post enc Try.prog Try.f15 false true false false) := by
  refine returnsInHanded_of_change_sized (C := Try.checked) own started (by kernel_rfl) Try.func15
    (ChangeSpec.witness6 (enc := enc) (C := Try.checked) false ⟨#[], #[.agg #[.bool false, .slice none 0 0, .slice none 0 0], .agg #[.bool false, .slice none 0 0, .slice none 0 0]], []⟩ 8 (by kernel_rfl) (by kernel_rfl) (by kernel_rfl) (by kernel_rfl)) ?_
  intro W base args ds gs before hval0 hW hcnd hsz0 _
  have hsz : (DataW.weightsEach Try.prog (Try.f15.params.toList ++ Rows.ratioProductsSpec.plain.varTypes Try.prog) (ds ++ gs)).all (· ≤ reachBytes) = true := hsz0
  have hval : ∀ (j : Nat) t v, Try.f15.params[j]? = some t → args[j]? = some v → Value.okWide Try.prog W .any base t v := hval0
  have hW' := hW
  obtain ⟨p, q, hA0, hV, rfl, hfz, hnd⟩ := hW
  have hA : DataW.TrodAll enc Try.prog W 0 (fun _ => true) true Try.f15.params.toList args.toList ds p := hA0
  rw [Try.params15] at hA hval hsz
  have hA1 := hA
  obtain ⟨v0, vs0, d0, ds0, p0, q0, hargs, rfl, rfl, h0, r0⟩ := trodAll_cons hA
  obtain ⟨v1, vs1, d1, ds1, p1, q1, rfl, rfl, rfl, h1, r1⟩ := trodAll_cons r0
  obtain ⟨rfl, rfl, rfl⟩ := trodAll_nil r1
  obtain rfl : args = #[v0, v1] := by cases args; simp_all
  obtain ⟨rfl, rfl⟩ := trodVars_none hV
  obtain ⟨x0, rx0, tx0⟩ := Go.Ab.top_open (P := Try.prog) 8 (by kernel_rfl) (hval 0 50 v0 rfl rfl) h0 (fun m hm => by simpa using List.all_eq_true.1 hsz m (DataW.weights_mem_each (j := 0) (t := 50) (d := d0) rfl rfl m hm))
  obtain ⟨p0, rfl, f0_0, f0_1⟩ := Go.Ab.top_RA tx0
  obtain ⟨x1, rx1, tx1⟩ := Go.Ab.top_open (P := Try.prog) 8 (by kernel_rfl) (hval 1 50 v1 rfl rfl) h1 (fun m hm => by simpa using List.all_eq_true.1 hsz m (DataW.weights_mem_each (j := 1) (t := 50) (d := d1) rfl rfl m hm))
  obtain ⟨p1, rfl, f1_0, f1_1⟩ := Go.Ab.top_RA tx1
  refine Go.Ab.true_calls (vs := [v0, v1]) (Go.Ab.l_RatioProducts p0 p1 f0_0 f1_0 f0_1 f1_1) (by simp only [Go.Ab.RepL]; exact ⟨rx0, rx1, trivial⟩) (post := fun v W' => Rows.ratioProductsSpec.post enc Try.prog Try.f15 false true false false W #[v0, v1] v W') fun W' bel => ?_
  exact ⟨_, _, _, [], _, [], hW', trodAll_mk1 (shut_bool Try.underlying4 _), Go.Ab.trodAll_below laidOut bel _ _ _ _ (by kernel_rfl) hA1 (Go.Ab.trodAll_lt _ _ _ _ hA1), rfl, bel.frame _, fun h => by cases h⟩
theorem over : Rows.ratioProductsRow.holds Try.pinned (OpenSpec.ofChange Rows.ratioProductsSpec) :=
  OpenClaim.holds_of_wide 15 Try.f15 rfl rfl rfl rfl rfl rfl rfl ⟨rfl, rfl, rfl, rfl, rfl⟩ rfl rfl rfl rfl rfl (by kernel_rfl) Try.func15 (by kernel_rfl)
    (of_decide_eq_true (by kernel_rfl)) (by unfold Func.isWrapper; first | (rw [if_pos (by decide +kernel)]; kernel_rfl) | (rw [if_neg (by decide +kernel)]; exact ⟨rfl, rfl⟩))
    (fun os started H enc _ => lifted os started H enc)
theorem proved : Rows.RatioProductsSaid := over
end Go.Proofs.Ytgffficaoioljaa.ratioProducts
namespace Go.Proofs.Ytgffficaoioljaa
theorem ratioProducts_holds : Rows.RatioProductsSaid := ratioProducts.proved
end Go.Proofs.Ytgffficaoioljaa
end

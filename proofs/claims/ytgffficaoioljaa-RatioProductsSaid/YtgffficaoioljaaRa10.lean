import Derived.Test.YtgffficaoioljaaRa7
import Derived.WalkKit
import Derived.ProofKit
import Derived.OpenShut
import Derived.ShutString
import Derived.ChangeOld
set_option linter.all false
section
namespace Go.Ab
open Go
open Go.ChangeShapes Go.WideShapes Go.ChangeAt Go.RowKit
def Top (P : Program) (k : Nat) (t : TypeId) (x : AV) : Prop :=
  match P.underlying t with
  | some (.struct _) => ∃ as, x = .agg as ∧ Typed P k t as
  | _ => Typed P k t [x]
def TopL (P : Program) (k : Nat) : List TypeId → List AV → Prop
  | [], [] => True
  | t :: ts, x :: xs => Top P k t x ∧ TopL P k ts xs
  | _, _ => False
theorem agg_not_ok {P : Program} {W : World} {r : Reach} {b : Nat} {t : TypeId} {cs : Array Value} (h : Cell.okWide P W r b t (.agg cs)) : False := by
  unfold Cell.okWide Cell.ok at h
  split at h <;> simp_all
theorem top_open {H : Type} {enc : TypeId × Value → H} {P : Program} {W : World} {spare : Nat → Bool} {held : Bool} {r : Reach} {b : Nat} {t : TypeId} {v : Value} {d : DataW H} {p : List MemPlace} (k : Nat) (ho : okTy P k t = true)
    (hv : Value.okWide P W r b t v) (h : DataW.Trod enc P W 0 spare held t v d p) (hw : ∀ m ∈ d.weights P t, m ≤ reachBytes) : ∃ x, Rep W μ0 M0 x v ∧ Top P k t x := by
  obtain ⟨n, hn⟩ := h
  obtain ⟨as, a1, a2, a3, a4⟩ := open_typed k n t _ _ hn hw ho
  unfold Value.okWide at hv
  unfold Top
  split at hv
  · rename_i fs hu
    obtain ⟨cs, rfl, _⟩ := hv
    refine ⟨.agg as, ?_, by simp only [hu]; exact ⟨as, rfl, a4⟩⟩
    simp only [Rep]
    exact ⟨cs, rfl, a2⟩
  · rename_i q e hu
    cases k with
    | zero => simp [okTy] at ho
    | succ k => simp [okTy, hu] at ho
  · rename_i h1 h2
    have hc : v.cells.toList = [v] := by
      cases v with
      | agg cs => exact (agg_not_ok hv).elim
      | _ => rfl
    rw [hc] at a1 a2
    obtain ⟨x, rfl⟩ := List.length_eq_one_iff.1 a1
    simp only [RepL] at a2
    refine ⟨x, a2.1, ?_⟩
    split
    · rename_i fs hu; exact absurd hu (h1 fs)
    · exact a4
theorem tops_open {H : Type} {enc : TypeId × Value → H} {P : Program} {W : World} {spare : Nat → Bool} {held : Bool} {r : Reach} {b : Nat} (k : Nat) : ∀ (ts : List TypeId) (vs : List Value) (ds : List (DataW H)) (ps : List MemPlace), ts.all (okTy P k) = true →
    (∀ (j : Nat) t v, ts[j]? = some t → vs[j]? = some v → Value.okWide P W r b t v) → DataW.TrodAll enc P W 0 spare held ts vs ds ps → (∀ m ∈ DataW.weightsEach P ts ds, m ≤ reachBytes) → ∃ xs, RepL W μ0 M0 xs vs ∧ TopL P k ts xs
  | [], vs, ds, ps, _, _, h, _ => by
    cases vs with
    | nil => exact ⟨[], by simp [RepL], by simp [TopL]⟩
    | cons v vs => exact h.elim
  | t :: ts, vs, ds, ps, ho, hv, h, hw => by
    cases vs with
    | nil => exact h.elim
    | cons v vs =>
      simp only [List.all_cons, Bool.and_eq_true] at ho
      cases ds with
      | nil => exact h.elim
      | cons d ds =>
        obtain ⟨p, q, h1, h2, _⟩ := h
        simp only [DataW.weightsEach, List.mem_append] at hw
        obtain ⟨x, x1, x2⟩ := top_open k ho.1 (hv 0 t v rfl rfl) h1 fun m hm => hw m (.inl hm)
        obtain ⟨xs, y1, y2⟩ := tops_open k ts vs ds q ho.2 (fun j t' v' ht hv' => hv (j + 1) t' v' (by simpa using ht) (by simpa using hv')) h2 fun m hm => hw m (.inr hm)
        exact ⟨x :: xs, by simp only [RepL]; exact ⟨x1, y1⟩, x2, y2⟩
theorem trodAll_lt {H : Type} {enc : TypeId × Value → H} {P : Program} {W : World} {spare : Nat → Bool} {held : Bool} : ∀ (ts : List TypeId) (vs : List Value) (ds : List (DataW H)) (ps : List MemPlace), DataW.TrodAll enc P W 0 spare held ts vs ds ps → ∀ x ∈ ps, x.block < W.heap.size
  | [], vs, ds, ps, h => by
    match vs, ds, h with
    | [], [], h => intro x hx; have : ps = [] := h; subst this; cases hx
  | t :: ts, vs, ds, ps, h => by
    match vs, ds, h with
    | v :: vs, d :: ds, ⟨p, q, h1, h2, e⟩ =>
      intro x hx
      subst e
      rcases List.mem_append.1 hx with hx | hx
      · obtain ⟨m, hm⟩ := h1; exact DataW.trod_lt m _ _ _ hm x hx
      · exact trodAll_lt ts vs ds q h2 x hx
theorem trodAll_below {H : Type} {enc : TypeId × Value → H} {P : Program} (hl : laidOutB P = true) {W W' : World} (hb : Below W.heap.size W W') : ∀ (ts : List TypeId) (vs : List Value) (ds : List (DataW H)) (ps : List MemPlace), (ts.all fun t => P.readableRec t && decide (t < P.types.size)) = true →
    DataW.TrodAll enc P W 0 (fun _ => true) true ts vs ds ps → (∀ x ∈ ps, x.block < W.heap.size) → DataW.TrodAll enc P W' 0 (fun b => decide (b < W.heap.size)) true ts vs ds ps
  | [], vs, ds, ps, _, h, _ => by
    match vs, ds, h with
    | [], [], h => exact h
  | t :: ts, vs, ds, ps, ho, h, hlt => by
    match vs, ds, h with
    | v :: vs, d :: ds, ⟨p, q, h1, h2, e⟩ =>
      subst e
      simp only [List.all_cons, Bool.and_eq_true, decide_eq_true_eq] at ho
      exact ⟨p, q, Below.trod hl ho.1.1 ho.1.2 h1 hb fun x hx => hlt x (by simp [hx]), trodAll_below hl hb ts vs ds q (by simpa using ho.2) h2 fun x hx => hlt x (by simp [hx]), rfl⟩
theorem true_calls {P : Program} {f : FuncId} {W : World} {xs : List AV} {vs : List Value} (sp : Spec P f xs (.sc (.bool true))) (hr : RepL W μ0 M0 xs vs) {post : Value → World → Prop} (hp : ∀ W', Below W.heap.size W W' → post (.bool true) W') :
    Calls P f vs.toArray W fun e W' => ∃ v, e = .returned v ∧ post v W' := by
  refine (sp.calls M0 W vs (fun _ h => h.elim) hr).mono fun e W' he => ?_
  cases e with
  | panicked _ => exact he.elim
  | outgrown => exact he.elim
  | returned v =>
    obtain ⟨h1, h2⟩ := he
    simp only [Rep] at h1
    subst h1
    exact ⟨_, rfl, hp W' ⟨h2.os, h2.tape, h2.output, h2.size, fun k hk => h2.block k hk fun h => h⟩⟩
end Go.Ab
end

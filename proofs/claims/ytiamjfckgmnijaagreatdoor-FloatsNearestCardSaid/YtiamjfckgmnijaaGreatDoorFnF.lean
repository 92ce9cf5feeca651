import Derived.Test.YtiamjfckgmnijaaGreatDoorFnC
import Derived.SizedLaws
import Derived.ChangeArms
import Derived.Below
import Derived.WalkKit
import Derived.ProofKit
import Derived.OpenShut
import Derived.ShutString
import Derived.ChangeOld
set_option linter.all false
section
namespace Go.Ab
open Go
def Typed (P : Program) : Nat → TypeId → List AV → Prop
  | 0, _, _ => False
  | n + 1, t, as => match P.underlying t with
    | some .bool => ∃ b, as = [.sc (.bool b)]
    | some (.int k) => ∃ z, as = [.sc (.int k z)] ∧ (Lit.int k z).wf = true
    | some (.float k) => ∃ b, as = [.sc (.float k b)] ∧ (Lit.float k b).wf = true
    | some .string => ∃ s : ByteArray, as = [.sc (.string s)] ∧ s.size ≤ reachBytes
    | some (.slice e) => ∃ css : List (List AV), as = [.vs css.length css.flatten] ∧ css.length * P.bytesOf e ≤ reachBytes ∧ ∀ c ∈ css, c.length = P.cellsOf e ∧ Typed P n e c
    | some (.struct fs) => as.length = P.cellsOf t ∧ ∀ f ∈ fs.toList, Typed P n f.type ((as.drop f.offset).take (P.cellsOf f.type))
    | _ => False
def contig (P : Program) (tot : Nat) : List Field → Nat → Bool
  | [], o => o == tot
  | f :: fs, o => f.offset == o && contig P tot fs (o + P.cellsOf f.type)
def okTy (P : Program) : Nat → TypeId → Bool
  | 0, _ => false
  | n + 1, t => match P.underlying t with
    | some .bool | some (.int _) | some (.float _) | some .string => true
    | some (.slice e) => okTy P n e
    | some (.struct fs) => contig P (P.cellsOf t) fs.toList 0 && fs.toList.all fun f => okTy P n f.type
    | _ => false
section
variable {P : Program} {W : World} {μ : Mu} {M : Nat → Prop}
theorem RepL.append : ∀ {xs : List AV} {us : List Value} {ys : List AV} {vs : List Value}, RepL W μ M xs us → RepL W μ M ys vs → RepL W μ M (xs ++ ys) (us ++ vs)
  | [], [], ys, vs, _, h => h
  | x :: xs, u :: us, ys, vs, h, k => by
    simp only [RepL, List.cons_append] at h ⊢
    exact ⟨h.1, RepL.append h.2 k⟩
  | [], _ :: _, _, _, h, _ => by simp [RepL] at h
  | _ :: _, [], _, _, h, _ => by simp [RepL] at h
theorem Row.append {b : Nat} : ∀ {xs ys : List AV} {o : Nat}, Row W μ M b o xs → Row W μ M b (o + xs.length) ys → Row W μ M b o (xs ++ ys)
  | [], ys, o, _, k => by simpa using k
  | x :: xs, ys, o, h, k => by
    simp only [Row, List.cons_append] at h ⊢
    exact ⟨h.1, Row.append h.2 (by rw [show o + 1 + xs.length = o + (x :: xs).length by simp; omega]; exact k)⟩
theorem Row.of_repL {b : Nat} : ∀ {xs : List AV} {us : List Value} {o : Nat}, RepL W μ M xs us → (∀ x ∈ xs, x.fz = true) → (∀ (i : Nat) (u : Value), us[i]? = some u → W.cell? ⟨b, o + i, none⟩ = some u) → Row W μ M b o xs
  | [], [], o, _, _, _ => by simp [Row]
  | x :: xs, u :: us, o, h, hf, hc => by
    simp only [RepL, Row] at h ⊢
    refine ⟨⟨hf x (by simp), u, hc 0 u rfl, h.1⟩, Row.of_repL h.2 (fun y hy => hf y (by simp [hy])) fun i v hv => ?_⟩
    have := hc (i + 1) v (by simpa using hv)
    rwa [show o + (i + 1) = o + 1 + i by omega] at this
  | [], _ :: _, _, h, _, _ => by simp [RepL] at h
  | _ :: _, [], _, h, _, _ => by simp [RepL] at h
theorem mem_weightsAll {H : Type} {e : TypeId} {d : DataW H} : ∀ {l : List (DataW H)}, d ∈ l → ∀ m ∈ d.weights P e, m ∈ DataW.weightsAll P e l
  | x :: l, hd, m, hm => by
    simp only [DataW.weightsAll, List.mem_append]
    rcases List.mem_cons.1 hd with rfl | hd
    · exact .inl hm
    · exact .inr (mem_weightsAll hd m hm)
theorem range_mapM {α : Type} {f : Nat → Option α} {n : Nat} {l : List α} (h : (List.range n).mapM f = some l) : l.length = n ∧ ∀ i x, l[i]? = some x → f i = some x := by
  have hl := mapM_some_length h
  refine ⟨by simpa using hl, fun i x hx => ?_⟩
  have hi : i < n := by have := (List.getElem?_eq_some_iff.1 hx).1; simp at hl; omega
  have := mapM_some_get h i i (by simp [hi])
  rw [this, hx]
theorem contig_le {tot : Nat} : ∀ (fs : List Field) (o : Nat), contig P tot fs o = true → o ≤ tot
  | [], o, h => by simp only [contig, beq_iff_eq] at h; omega
  | f :: fs, o, h => by
    simp only [contig, Bool.and_eq_true, beq_iff_eq] at h
    have := contig_le fs _ h.2
    omega
theorem fields_ok {k : Nat} {cs : List Value} (tot : Nat) (hl : cs.length = tot) : ∀ (fs : List Field) (o : Nat), contig P tot fs o = true →
    (∀ f ∈ fs, ∃ as : List AV, as.length = ((cs.drop f.offset).take (P.cellsOf f.type)).length ∧ RepL W μ M as ((cs.drop f.offset).take (P.cellsOf f.type)) ∧ (∀ a ∈ as, a.fz = true) ∧ Typed P k f.type as) →
    ∃ as : List AV, as.length = tot - o ∧ RepL W μ M as (cs.drop o) ∧ (∀ a ∈ as, a.fz = true) ∧ ∀ f ∈ fs, o ≤ f.offset ∧ Typed P k f.type ((as.drop (f.offset - o)).take (P.cellsOf f.type))
  | [], o, hc, _ => by
    simp only [contig, beq_iff_eq] at hc
    subst hc
    exact ⟨[], by simp, by rw [List.drop_eq_nil_of_le (by omega)]; simp [RepL], by simp, by simp⟩
  | f :: fs, o, hc, h => by
    simp only [contig, Bool.and_eq_true, beq_iff_eq] at hc
    obtain ⟨rfl, hc⟩ := hc
    have hle := contig_le fs _ hc
    obtain ⟨a1, l1', r1, z1, t1⟩ := h f (by simp)
    have l1 : a1.length = P.cellsOf f.type := by
      rw [l1']
      simp only [List.length_take, List.length_drop]
      omega
    obtain ⟨a2, l2, r2, z2, t2⟩ := fields_ok tot hl fs _ hc (fun g hg => h g (by simp [hg]))
    refine ⟨a1 ++ a2, by simp [l1, l2]; omega, ?_, ?_, ?_⟩
    · have e : cs.drop f.offset = (cs.drop f.offset).take (P.cellsOf f.type) ++ cs.drop (f.offset + P.cellsOf f.type) := by
        rw [← List.drop_drop, List.take_append_drop]
      rw [e]
      exact RepL.append r1 r2
    · intro a ha
      rcases List.mem_append.1 ha with ha | ha
      · exact z1 a ha
      · exact z2 a ha
    · intro g hg
      rcases List.mem_cons.1 hg with rfl | hg
      · refine ⟨Nat.le_refl _, ?_⟩
        rw [Nat.sub_self, List.drop_zero, List.take_append_of_le_length (by omega), ← l1, List.take_length]
        exact t1
      · obtain ⟨g1, g2⟩ := t2 g hg
        refine ⟨by omega, ?_⟩
        rw [List.drop_append, List.drop_eq_nil_of_le (by omega), List.nil_append, l1, show g.offset - f.offset - P.cellsOf f.type = g.offset - (f.offset + P.cellsOf f.type) by omega]
        exact g2
theorem cells_get {a : Addr} {n : Nat} {l : List Value} (h : W.cells? 0 a n = some l) : l.length = n ∧ ∀ i u, l[i]? = some u → W.cell? (a.add i) = some u := by
  unfold World.cells? at h
  rw [if_pos (Nat.zero_le _)] at h
  exact range_mapM h
theorem add_add (b o i : Nat) : Addr.add ⟨b, o, none⟩ i = ⟨b, o + i, none⟩ := by
  unfold Addr.add
  split
  · rename_i h; subst h; rfl
  · rfl
theorem open_typed {H : Type} {enc : TypeId × Value → H} {spare : Nat → Bool} {held : Bool} : ∀ (k n : Nat) (t : TypeId) (cs : List Value) (x : DataW H × List MemPlace), DataW.trod enc P W 0 spare held n t cs = some x →
    (∀ m ∈ x.1.weights P t, m ≤ reachBytes) → okTy P k t = true → ∃ as : List AV, as.length = cs.length ∧ RepL W μ0 M0 as cs ∧ (∀ a ∈ as, a.fz = true) ∧ Typed P k t as
  | 0, n, t, cs, x, _, _, ho => by simp [okTy] at ho
  | k + 1, n, t, cs, x, ht, hw, ho => by
    unfold okTy at ho
    split at ho
    · rename_i hu
      obtain ⟨b, rfl, rfl⟩ := DataW.trod_bool hu ht
      simp only [Typed, hu]
      exact ⟨[.sc (.bool b)], rfl, by simp [RepL, Rep], by simp [AV.fz, oneV], b, rfl⟩
    · rename_i q hu
      obtain ⟨z, rfl, rfl, h3⟩ := DataW.trod_int hu ht
      simp only [Typed, hu]
      exact ⟨[.sc (.int q z)], rfl, by simp [RepL, Rep], by simp [AV.fz, oneV], z, rfl, h3⟩
    · rename_i q hu
      have : ∃ b, cs = [.float q b] ∧ (Lit.float q b).wf = true := by
        cases n with
        | zero => simp [DataW.trod] at ht
        | succ n =>
          unfold DataW.trod at ht
          rw [hu] at ht
          split at ht <;> simp_all
      obtain ⟨b, rfl, h3⟩ := this
      simp only [Typed, hu]
      exact ⟨[.sc (.float q b)], rfl, by simp [RepL, Rep], by simp [AV.fz, oneV], b, rfl, h3⟩
    · rename_i hu
      obtain ⟨s, rfl, rfl, h3⟩ := DataW.trod_string hu ht
      simp only [Typed, hu]
      refine ⟨[.sc (.string s)], rfl, by simp [RepL, Rep], by simp [AV.fz, oneV], s, rfl, ?_⟩
      have := hw s.data.toList.length (by simp [DataW.weights])
      rw [Array.length_toList] at this
      exact this
    · rename_i e hu
      simp only [Typed, hu]
      rcases DataW.trod_slice hu ht with ⟨rfl, rfl⟩ | ⟨a, len, cap, elems, rest, m, rfl, rfl, rfl, _, hl, _, he, hel, _, _⟩
      · exact ⟨[.vs 0 []], rfl, by simp only [RepL, Rep]; exact ⟨⟨none, 0, rfl, Nat.le_refl _, .inl trivial⟩, trivial⟩, by simp [AV.fz], [], rfl, by simp, by simp⟩
      · have hwe : ∀ d ∈ elems.map (·.1), ∀ q ∈ d.weights P e, q ≤ reachBytes := fun d hd q hq => hw q (by
          simp only [DataW.weights, hu, List.mem_cons, List.mem_append]
          exact .inr (.inl (mem_weightsAll hd q hq)))
        have hwl : len * P.bytesOf e ≤ reachBytes := by
          refine Nat.le_trans (Nat.mul_le_mul_right _ ?_) (hw (((elems.map (·.1)).length + (rest.map (·.1)).length) * P.bytesOf e) (by simp [DataW.weights, hu]))
          simp; omega
        have each : ∀ i, i < len → ∃ (c : List Value) (as : List AV), W.cells? 0 (a.add (i * P.cellsOf e)) (P.cellsOf e) = some c ∧ as.length = c.length ∧ RepL W μ0 M0 as c ∧ (∀ a ∈ as, a.fz = true) ∧ Typed P k e as := by
          intro i hi
          have h1 := hel i hi
          have hy : elems[i]? = some elems[i] := List.getElem?_eq_getElem (by omega)
          rw [hy] at h1
          obtain ⟨c, h2, h3⟩ := Option.bind_eq_some_iff.1 h1
          obtain ⟨as, i1, i2, i3, i4⟩ := open_typed k m e c _ h3 (hwe _ (List.mem_map_of_mem (List.getElem_mem _))) ho
          exact ⟨c, as, h2, i1, i2, i3, i4⟩
        obtain ⟨b, o, sp⟩ := a
        by_cases hz : len = 0 ∨ P.cellsOf e = 0
        · have key : ∀ q, q ≤ len → ∃ css : List (List AV), css.length = q ∧ css.flatten = [] ∧ ∀ c ∈ css, c.length = P.cellsOf e ∧ Typed P k e c := by
            intro q
            induction q with
            | zero => exact fun _ => ⟨[], rfl, rfl, by simp⟩
            | succ q ih =>
              intro hq
              obtain ⟨css, c1, c2, c3⟩ := ih (by omega)
              obtain ⟨c, as, d1, d2, _, _, d5⟩ := each q (by omega)
              obtain ⟨e1, _⟩ := cells_get d1
              have hz0 : P.cellsOf e = 0 := by omega
              have : as = [] := List.eq_nil_of_length_eq_zero (by omega)
              subst this
              refine ⟨css ++ [[]], by simp [c1], by simp [c2], fun c hc => ?_⟩
              rcases List.mem_append.1 hc with hc | hc
              · exact c3 c hc
              · simp at hc; subst hc; exact ⟨by simp [hz0], d5⟩
          obtain ⟨css, c1, c2, c3⟩ := key len (Nat.le_refl _)
          refine ⟨[.vs css.length css.flatten], rfl, ?_, by simp [AV.fz], css, rfl, by rw [c1]; exact hwl, c3⟩
          simp only [RepL, Rep]
          exact ⟨⟨_, cap, by rw [c1], by omega, .inl c2⟩, trivial⟩
        · have hsp : sp = none := by
            obtain ⟨c, as, d1, _⟩ := each 0 (by omega)
            obtain ⟨e1, e2⟩ := cells_get d1
            have := e2 0 _ (List.getElem?_eq_getElem (by omega))
            simpa [Addr.add] using World.cell?_spot this
          subst hsp
          have key : ∀ q, q ≤ len → ∃ css : List (List AV), css.length = q ∧ css.flatten.length = q * P.cellsOf e ∧ Row W μ0 M0 b o css.flatten ∧ ∀ c ∈ css, c.length = P.cellsOf e ∧ Typed P k e c := by
            intro q
            induction q with
            | zero => exact fun _ => ⟨[], rfl, by simp, by simp [Row], by simp⟩
            | succ q ih =>
              intro hq
              obtain ⟨css, c1, c2, c3, c4⟩ := ih (by omega)
              obtain ⟨c, as, d1, d2, d3, d4, d5⟩ := each q (by omega)
              obtain ⟨e1, e2⟩ := cells_get d1
              refine ⟨css ++ [as], by simp [c1], by simp [c2, d2, e1, Nat.succ_mul], ?_, fun c hc => ?_⟩
              · simp only [List.flatten_append, List.flatten_cons, List.flatten_nil, List.append_nil]
                refine Row.append c3 (Row.of_repL d3 d4 fun i u hu => ?_)
                have := e2 i u hu
                rw [add_add, add_add] at this
                rw [c2]; exact this
              · rcases List.mem_append.1 hc with hc | hc
                · exact c4 c hc
                · simp at hc; subst hc; exact ⟨by omega, d5⟩
          obtain ⟨css, c1, c2, c3, c4⟩ := key len (Nat.le_refl _)
          refine ⟨[.vs css.length css.flatten], rfl, ?_, by simp [AV.fz], css, rfl, by rw [c1]; exact hwl, c4⟩
          simp only [RepL, Rep]
          exact ⟨⟨_, cap, by rw [c1], by omega, .inr ⟨b, o, rfl, fun h => h, c3⟩⟩, trivial⟩
    · rename_i fs hu
      simp only [Typed, hu]
      simp only [Bool.and_eq_true, List.all_eq_true] at ho
      obtain ⟨xs, m, rfl, rfl, h3, h4, h5⟩ := DataW.trod_struct hu ht
      obtain ⟨as, a1, a2, a3, a4⟩ := fields_ok (k := k) (W := W) (μ := μ0) (M := M0) (cs := cs) (P.cellsOf t) h3 fs.toList 0 ho.1 (fun f hf => by
        obtain ⟨i, hi⟩ := List.getElem?_of_mem hf
        have hi' : fs[i]? = some f := by simpa using hi
        have h6 := h5 i f hi'
        have hil : i < xs.length := by rw [h4]; exact (Array.getElem?_eq_some_iff.1 hi').1
        rw [List.getElem?_eq_getElem hil] at h6
        exact open_typed k m f.type _ _ h6 (fun q hq => hw q (by
          simp only [DataW.weights, hu]
          exact DataW.weights_mem_each (j := i) (t := f.type) (d := xs[i].1) (by simp [hi]) (by simp [hil]) q hq)) (ho.2 f hf))
      refine ⟨as, by omega, by simpa using a2, a3, by omega, fun f hf => ?_⟩
      have := (a4 f hf).2
      rwa [Nat.sub_zero] at this
    · cases ho
end
end Go.Ab
end
section
namespace Go.Ab
open Go
open Go.ChangeShapes Go.WideShapes Go.ChangeAt Go.RowKit
def Top (P : Program) (k : Nat) (t : TypeId) (x : AV) : Prop :=
  match P.underlying t with
  | some (.struct _) => ∃ as, x = .agg as ∧ Typed P k t as
  | _ => Typed P k t [x]
def TopL (P : Program) (k : Nat) : List TypeId → List AV → Prop
  | [], [] => True
  | t :: ts, x :: xs => Top P k t x ∧ TopL P k ts xs
  | _, _ => False
theorem agg_not_ok {P : Program} {W : World} {r : Reach} {b : Nat} {t : TypeId} {cs : Array Value} (h : Cell.okWide P W r b t (.agg cs)) : False := by
  unfold Cell.okWide Cell.ok at h
  split at h <;> simp_all
theorem top_open {H : Type} {enc : TypeId × Value → H} {P : Program} {W : World} {spare : Nat → Bool} {held : Bool} {r : Reach} {b : Nat} {t : TypeId} {v : Value} {d : DataW H} {p : List MemPlace} (k : Nat) (ho : okTy P k t = true)
    (hv : Value.okWide P W r b t v) (h : DataW.Trod enc P W 0 spare held t v d p) (hw : ∀ m ∈ d.weights P t, m ≤ reachBytes) : ∃ x, Rep W μ0 M0 x v ∧ Top P k t x := by
  obtain ⟨n, hn⟩ := h
  obtain ⟨as, a1, a2, a3, a4⟩ := open_typed k n t _ _ hn hw ho
  unfold Value.okWide at hv
  unfold Top
  split at hv
  · rename_i fs hu
    obtain ⟨cs, rfl, _⟩ := hv
    refine ⟨.agg as, ?_, by simp only [hu]; exact ⟨as, rfl, a4⟩⟩
    simp only [Rep]
    exact ⟨cs, rfl, a2⟩
  · rename_i q e hu
    cases k with
    | zero => simp [okTy] at ho
    | succ k => simp [okTy, hu] at ho
  · rename_i h1 h2
    have hc : v.cells.toList = [v] := by
      cases v with
      | agg cs => exact (agg_not_ok hv).elim
      | _ => rfl
    rw [hc] at a1 a2
    obtain ⟨x, rfl⟩ := List.length_eq_one_iff.1 a1
    simp only [RepL] at a2
    refine ⟨x, a2.1, ?_⟩
    split
    · rename_i fs hu; exact absurd hu (h1 fs)
    · exact a4
theorem tops_open {H : Type} {enc : TypeId × Value → H} {P : Program} {W : World} {spare : Nat → Bool} {held : Bool} {r : Reach} {b : Nat} (k : Nat) : ∀ (ts : List TypeId) (vs : List Value) (ds : List (DataW H)) (ps : List MemPlace), ts.all (okTy P k) = true →
    (∀ (j : Nat) t v, ts[j]? = some t → vs[j]? = some v → Value.okWide P W r b t v) → DataW.TrodAll enc P W 0 spare held ts vs ds ps → (∀ m ∈ DataW.weightsEach P ts ds, m ≤ reachBytes) → ∃ xs, RepL W μ0 M0 xs vs ∧ TopL P k ts xs
  | [], vs, ds, ps, _, _, h, _ => by
    cases vs with
    | nil => exact ⟨[], by simp [RepL], by simp [TopL]⟩
    | cons v vs => exact h.elim
  | t :: ts, vs, ds, ps, ho, hv, h, hw => by
    cases vs with
    | nil => exact h.elim
    | cons v vs =>
      simp only [List.all_cons, Bool.and_eq_true] at ho
      cases ds with
      | nil => exact h.elim
      | cons d ds =>
        obtain ⟨p, q, h1, h2, _⟩ := h
        simp only [DataW.weightsEach, List.mem_append] at hw
        obtain ⟨x, x1, x2⟩ := top_open k ho.1 (hv 0 t v rfl rfl) h1 fun m hm => hw m (.inl hm)
        obtain ⟨xs, y1, y2⟩ := tops_open k ts vs ds q ho.2 (fun j t' v' ht hv' => hv (j + 1) t' v' (by simpa using ht) (by simpa using hv')) h2 fun m hm => hw m (.inr hm)
        exact ⟨x :: xs, by simp only [RepL]; exact ⟨x1, y1⟩, x2, y2⟩
theorem trodAll_lt {H : Type} {enc : TypeId × Value → H} {P : Program} {W : World} {spare : Nat → Bool} {held : Bool} : ∀ (ts : List TypeId) (vs : List Value) (ds : List (DataW H)) (ps : List MemPlace), DataW.TrodAll enc P W 0 spare held ts vs ds ps → ∀ x ∈ ps, x.block < W.heap.size
  | [], vs, ds, ps, h => by
    match vs, ds, h with
    | [], [], h => intro x hx; have : ps = [] := h; subst this; cases hx
  | t :: ts, vs, ds, ps, h => by
    match vs, ds, h with
    | v :: vs, d :: ds, ⟨p, q, h1, h2, e⟩ =>
      intro x hx
      subst e
      rcases List.mem_append.1 hx with hx | hx
      · obtain ⟨m, hm⟩ := h1; exact DataW.trod_lt m _ _ _ hm x hx
      · exact trodAll_lt ts vs ds q h2 x hx
theorem trodAll_below {H : Type} {enc : TypeId × Value → H} {P : Program} (hl : laidOutB P = true) {W W' : World} (hb : Below W.heap.size W W') : ∀ (ts : List TypeId) (vs : List Value) (ds : List (DataW H)) (ps : List MemPlace), (ts.all fun t => P.readableRec t && decide (t < P.types.size)) = true →
    DataW.TrodAll enc P W 0 (fun _ => true) true ts vs ds ps → (∀ x ∈ ps, x.block < W.heap.size) → DataW.TrodAll enc P W' 0 (fun b => decide (b < W.heap.size)) true ts vs ds ps
  | [], vs, ds, ps, _, h, _ => by
    match vs, ds, h with
    | [], [], h => exact h
  | t :: ts, vs, ds, ps, ho, h, hlt => by
    match vs, ds, h with
    | v :: vs, d :: ds, ⟨p, q, h1, h2, e⟩ =>
      subst e
      simp only [List.all_cons, Bool.and_eq_true, decide_eq_true_eq] at ho
      exact ⟨p, q, Below.trod hl ho.1.1 ho.1.2 h1 hb fun x hx => hlt x (by simp [hx]), trodAll_below hl hb ts vs ds q (by simpa using ho.2) h2 fun x hx => hlt x (by simp [hx]), rfl⟩
theorem true_calls {P : Program} {f : FuncId} {W : World} {xs : List AV} {vs : List Value} (sp : Spec P f xs (.sc (.bool true))) (hr : RepL W μ0 M0 xs vs) {post : Value → World → Prop} (hp : ∀ W', Below W.heap.size W W' → post (.bool true) W') (hT : TabOK W M0 := by exact ⟨by intro t ht; cases ht, by intro t ht; cases ht⟩) :
    Calls P f vs.toArray W fun e W' => ∃ v, e = .returned v ∧ post v W' := by
  refine (sp.calls M0 W vs (fun _ h => h.elim) hT hr).mono fun e W' he => ?_
  cases e with
  | panicked _ => exact he.elim
  | outgrown => exact he.elim
  | returned v =>
    obtain ⟨h1, h2⟩ := he
    simp only [Rep] at h1
    subst h1
    exact ⟨_, rfl, hp W' ⟨h2.os, h2.tape, h2.output, h2.size, fun k hk => h2.block k hk fun h => h⟩⟩
end Go.Ab
end

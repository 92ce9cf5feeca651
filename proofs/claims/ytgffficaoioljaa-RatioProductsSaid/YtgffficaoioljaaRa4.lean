import Derived.Test.YtgffficaoioljaaRa3
import Derived.Deep.MidRow
set_option linter.all false
section
namespace Go.Ab
open Go
theorem tyOf_spec {P : Program} {t : TypeId} {ty : Ty} (h : tyOf P t = some ty) : ∃ i, P.underlying t = some ty.d ∧ P.info? t = some i ∧ i.size = ty.sz ∧ i.zero.map (·.cells.toList) = ty.z ∧ i.bytes = ty.by_ := by
  unfold tyOf at h
  split at h
  · rename_i d i h1 h2
    cases h
    exact ⟨i, h1, h2, rfl, rfl, rfl⟩
  · cases h
theorem aslice0_spec {P : Program} {t e : TypeId} {ty : Ty} (h : aslice0 P t = some (e, ty)) : P.underlying t = some (.slice e) ∧ tyOf P e = some ty := by
  unfold aslice0 at h
  split at h
  · rename_i e' _ _ _ h1
    obtain ⟨i, h2, _⟩ := tyOf_spec h1
    cases he : tyOf P e' with
    | none => rw [he] at h; simp at h
    | some ty' =>
      rw [he] at h
      simp at h
      obtain ⟨rfl, rfl⟩ := h
      exact ⟨h2, he⟩
  · cases h
section
variable {P : Program} {F : Nat → Prop} {s : S} {μ : Mu} {a : Act} {w : World} {M : Nat → Prop}
theorem RepL_sc : ∀ (vs : List Value), RepL w μ M (vs.map .sc) vs
  | [] => by simp [RepL]
  | v :: vs => by simp only [List.map_cons, RepL]; exact ⟨by simp [Rep], RepL_sc vs⟩
theorem cells_rep {x : AV} {v : Value} (h : Rep w μ M x v) : RepL w μ M x.cellsA v.cells.toList := by
  cases x with
  | sc u => simp only [Rep] at h; subst h; exact RepL_sc _
  | agg cs => simp only [Rep] at h; obtain ⟨vs, rfl, h2⟩ := h; exact h2
  | vs n xs =>
    have h0 := h
    simp only [Rep] at h; obtain ⟨_, _, rfl, _⟩ := h
    simp only [AV.cellsA, Value.cells, RepL]; exact ⟨h0, trivial⟩
  | hs k g o n z =>
    have h0 := h
    simp only [Rep] at h; obtain ⟨_, _, _, _, _, rfl, _⟩ := h
    simp only [AV.cellsA, Value.cells, RepL]; exact ⟨h0, trivial⟩
  | hp k g o =>
    have h0 := h
    simp only [Rep] at h; obtain ⟨_, _, _, _, rfl⟩ := h
    simp only [AV.cellsA, Value.cells, RepL]; exact ⟨h0, trivial⟩
  | vp xs =>
    have h0 := h
    simp only [Rep] at h; obtain ⟨_, _, rfl, _⟩ := h
    simp only [AV.cellsA, Value.cells, RepL]; exact ⟨h0, trivial⟩
  | tup cs =>
    have h0 := h
    simp only [Rep] at h; obtain ⟨_, rfl, _⟩ := h
    simp only [AV.cellsA, Value.cells, RepL]; exact ⟨h0, trivial⟩
  | blk _ _ _ => simp [Rep] at h
theorem RepL.getR : ∀ {xs : List AV} {vs : List Value}, RepL w μ M xs vs → ∀ (i : Nat) (x : AV) (v : Value), xs[i]? = some x → vs[i]? = some v → Rep w μ M x v := by
  intro xs vs h i x v hx hv
  obtain ⟨v', h1, h2⟩ := RepL.get h i x hx
  rw [hv] at h1
  cases h1
  exact h2
def Ran (P : Program) (F : Nat → Prop) (s : S) (μ : Mu) (a : Act) (w : World) (o : Oper) (v : AV) (ups : List (Nat × AV)) : Prop :=
  ∃ n u w', (execOp a.eval o).run P w = .ok n w' ∧ (n = .value u ∨ n = .skip ∧ u = undef) ∧ Out P F s μ w ups v u w'
theorem Ran.quiet (hp : Hp F s μ w) {o : Oper} {v : AV} (u : Value) (hr : (execOp a.eval o).run P w = .ok (.value u) w) (h : Rep w μ (Mof F s μ) v u) : Ran P F s μ a w o v [] :=
  ⟨_, u, w, hr, .inl rfl, Out.pure hp h⟩
theorem ran_move (sim : Sim F s μ a w) {o : Oper} {x : Operand} (ho : o.op = .move x ∨ o.op = .assign x) : Ran P F s μ a w o (ev s x) [] :=
  Ran.quiet sim.hp (a.eval x) (by rcases ho with ho | ho <;> simp [execOp, ho]) (ev_rep sim x)
theorem ran_pick (sim : Sim F s μ a w) {o : Oper} {c x y : Operand} {t : Bool} (ho : o.op = .pick c x y) (hc : ev s c = .sc (.bool t)) : Ran P F s μ a w o (if t then ev s x else ev s y) [] := by
  have h := ev_rep sim c
  rw [hc] at h
  simp only [Rep] at h
  refine Ran.quiet sim.hp (if t then a.eval x else a.eval y) ?_ ?_
  · simp [execOp, ho, h, asBool]
  · cases t
    · exact ev_rep sim y
    · exact ev_rep sim x
theorem zip_cells : ∀ (cs : List Value) (off n : Nat) (arr : Array Value), ((cs.zipIdx n).foldl (fun cs (p : Value × Nat) => cs.setIfInBounds (off + p.2) p.1) arr).size = arr.size ∧
    ∀ i : Nat, ((cs.zipIdx n).foldl (fun cs (p : Value × Nat) => cs.setIfInBounds (off + p.2) p.1) arr)[i]? = if off + n ≤ i ∧ i < off + n + cs.length ∧ i < arr.size then cs[i - (off + n)]? else arr[i]?
  | [], off, n, arr => ⟨rfl, fun i => by rw [if_neg (by simp; omega)]; rfl⟩
  | c :: cs, off, n, arr => by
    obtain ⟨h1, h2⟩ := zip_cells cs off (n + 1) (arr.setIfInBounds (off + n) c)
    simp only [List.zipIdx_cons, List.foldl_cons]
    refine ⟨by rw [h1]; simp, fun i => ?_⟩
    rw [h2]
    simp only [Array.size_setIfInBounds, List.length_cons]
    by_cases e1 : off + (n + 1) ≤ i ∧ i < off + (n + 1) + cs.length ∧ i < arr.size
    · rw [if_pos e1, if_pos (by omega), show i - (off + n) = (i - (off + (n + 1))) + 1 by omega]
      simp
    · rw [if_neg e1, Array.getElem?_setIfInBounds]
      by_cases e2 : off + n = i
      · subst e2
        by_cases e3 : off + n < arr.size
        · rw [if_pos rfl, if_pos e3, if_pos (by omega)]; simp
        · rw [if_pos rfl, if_neg e3, if_neg (by omega), Array.getElem?_eq_none (by omega)]
      · rw [if_neg e2, if_neg (by omega)]
theorem fill_rep (place : Nat → Option (Nat × Nat)) : ∀ (parts : List (Nat × AV)) (pv : List (Nat × Value)) (cs cs' : List AV) (arr : Array Value), RepL w μ M cs arr.toList →
    (parts.length = pv.length ∧ ∀ (j : Nat) (p : Nat × AV) (q : Nat × Value), parts[j]? = some p → pv[j]? = some q → p.1 = q.1 ∧ Rep w μ M p.2 q.2) → afill place cs parts = some cs' →
    ∃ arr', Instr.fill place arr pv = some arr' ∧ RepL w μ M cs' arr'.toList
  | [], [], cs, cs', arr, h, _, he => by
    simp only [afill, Option.some.injEq] at he
    subst he
    exact ⟨arr, rfl, h⟩
  | (i, x) :: parts, (j, v) :: pv, cs, cs', arr, h, hp, he => by
    obtain ⟨hi, hx⟩ := hp.2 0 (i, x) (j, v) (by simp) (by simp)
    simp only at hi hx
    subst hi
    have hc := cells_rep hx
    have hlc := RepL.length hc
    have hla := RepL.length h
    simp only [afill] at he
    simp only [Instr.fill]
    split at he
    · cases he
    · rename_i off size hpl
      split at he
      · rename_i hcond
        obtain ⟨h1, h2⟩ := hcond
        rw [hpl]
        simp only
        have hsz : v.cells.size = size := by rw [← h1, hlc]; simp
        rw [if_neg (by simp at hla; simp [hsz]; omega)]
        refine fill_rep place parts pv _ cs' _ ?_ ⟨by simpa using hp.1, fun j p q h3 h4 => hp.2 (j + 1) p q (by simpa using h3) (by simpa using h4)⟩ he
        have hz := zip_cells v.cells.toList off 0 arr
        have hfold : (v.cells.zipIdx.foldl (fun cs (p : Value × Nat) => cs.setIfInBounds (off + p.2) p.1) arr) = (v.cells.toList.zipIdx.foldl (fun cs (p : Value × Nat) => cs.setIfInBounds (off + p.2) p.1) arr) := by
          rw [← Array.foldl_toList, Array.toList_zipIdx]
        refine RepL.of_get ?_ fun i y u hy hu => ?_
        · rw [setAt_length, hla]
          show arr.toList.length = (v.cells.zipIdx.foldl (fun cs (p : Value × Nat) => cs.setIfInBounds (off + p.2) p.1) arr).toList.length
          rw [hfold]
          simp [hz.1]
        · have hu' : (v.cells.toList.zipIdx.foldl (fun cs (p : Value × Nat) => cs.setIfInBounds (off + p.2) p.1) arr)[i]? = some u := by
            rw [← hfold]; simpa using hu
          rw [hz.2] at hu'
          rw [setAt_get] at hy
          simp only [Nat.add_zero] at hu'
          have hl3 : cs.length = arr.size := by simpa using hla
          by_cases e : off ≤ i ∧ i < off + x.cellsA.length ∧ i < cs.length
          · rw [if_pos e] at hy
            rw [if_pos (by omega)] at hu'
            exact RepL.getR hc _ _ _ hy hu'
          · rw [if_neg e] at hy
            rw [if_neg (by omega)] at hu'
            exact RepL.getR h _ _ _ hy (by simpa using hu')
      · cases he
  | [], _ :: _, _, _, _, _, h, _ => by simp at h
  | _ :: _, [], _, _, _, _, h, _ => by simp at h
theorem parts_rep (sim : Sim F s μ a w) (ps : List (Nat × Operand)) : (ps.map fun p => (p.1, ev s p.2)).length = (ps.map fun p => (p.1, a.eval p.2)).length ∧
    ∀ (j : Nat) (p : Nat × AV) (q : Nat × Value), (ps.map fun p => (p.1, ev s p.2))[j]? = some p → (ps.map fun p => (p.1, a.eval p.2))[j]? = some q → p.1 = q.1 ∧ Rep w μ (Mof F s μ) p.2 q.2 := by
  refine ⟨by simp, fun j p q h1 h2 => ?_⟩
  simp only [List.getElem?_map] at h1 h2
  cases h : ps[j]? with
  | none => rw [h] at h1; simp at h1
  | some r =>
    rw [h] at h1 h2
    simp only [Option.map_some, Option.some.injEq] at h1 h2
    subst h1 h2
    exact ⟨rfl, ev_rep sim _⟩
theorem run_sizeOf' {t : TypeId} {ty : Ty} (h : tyOf P t = some ty) (w : World) : (sizeOf t).run P w = .ok ty.sz w := by
  obtain ⟨i, _, h2, h3, _⟩ := tyOf_spec h
  simp [sizeOf, typeInfo, h2, h3]
theorem places_ok : ∀ (fs : List Field) (l : List (Nat × Nat)), placesOf P fs = some l → ∀ w : World, (fs.mapM (fun f => do pure (f.offset, ← sizeOf f.type) : Field → Sem (Nat × Nat))).run P w = .ok l w
  | [], l, h, w => by simp [placesOf] at h; subst h; simp
  | f :: fs, l, h, w => by
    simp only [placesOf] at h
    split at h
    · rename_i ty l' h1 h2
      cases h
      have := places_ok fs l' h2 w
      simp [List.mapM_cons, run_sizeOf' h1] at this ⊢
      simp [this]
    · cases h
end
section
variable {P : Program} {F : Nat → Prop} {s : S} {μ : Mu} {a : Act} {w : World} {B : Nat} {h : Nat → AV} {v : AV} {ups : List (Nat × AV)}
def Own (B : Nat) (dst : Option Tmp) (h : Nat → AV) (s : S) : Prop := ∀ d, dst = some d → h (B + d) = s (.h (B + d))
theorem anew_all {dst : Option Tmp} {mk : Nat → Nat → AV} {cs : List AV} (he : anew B dst h mk cs = some (v, ups)) : ∀ x ∈ cs, x.one = true := by
  unfold anew at he
  split at he
  · cases he
  · split at he
    · rename_i hone
      simpa using hone
    · cases he
theorem hs_new {M : Nat → Prop} {w' : World} {μ' : Mu} {k g c n z L A cap : Nat} (h : μ' k g = some (c, L, A)) (h1 : n ≤ cap) (h2 : n * z ≤ L) (h3 : L ≤ cap * z) (h4 : cap * z ≤ A) : Rep w' μ' M (.hs k g 0 n z) (.slice (some ⟨c, 0, none⟩) n cap) := by
  simp only [Rep]
  exact ⟨c, L, A, cap, h, rfl, h1, by omega, by omega, by omega⟩
theorem hp_new {M : Nat → Prop} {w' : World} {μ' : Mu} {k g c L A : Nat} (h : μ' k g = some (c, L, A)) : Rep w' μ' M (.hp k g 0) (.pointer (some ⟨c, 0, none⟩)) := by
  simp only [Rep]
  exact ⟨c, L, A, h, rfl⟩
theorem nofreeze {n : Nat} : ∀ o, o < n → ¬ (((0, 0) : Nat × Nat).1 ≤ o ∧ o < ((0, 0) : Nat × Nat).2) := by
  intro o _ hh
  simp at hh
theorem ran_alloc (sim : Sim F s μ a w) {o : Oper} (hh : Own B o.dst h s) {t : TypeId} (ho : o.op = .alloc t) (he : aeff P B o.op o.dst (ev s) h = some (v, ups)) : Ran P F s μ a w o v ups := by
  rw [ho] at he
  simp only [aeff] at he
  split at he
  · rename_i d sz z b hty
    obtain ⟨i, h1, h2, h3, h4, h5⟩ := tyOf_spec hty
    simp only [Option.map_eq_some_iff] at h4
    obtain ⟨zv, h6, h7⟩ := h4
    refine ⟨.value (.pointer (some ⟨w.heap.size, 0, none⟩)), _, w.alloc (.cells zv.cells t), ?_, .inl rfl, ?_⟩
    · simp [execOp, ho, Instr.alloc, zeroValue, typeInfo, h2, h6, newVar, newRow]
    · refine anew_out sim.hp hh he zv.cells t (0, 0) (by rw [← h7]; simp) nofreeze ?_ (by rfl) (by rfl) (by rfl) (by rfl) fun k g μ' M hm => hp_new hm
      intro j x hx
      rw [← h7] at hx
      rw [List.getElem?_map] at hx
      cases hj : zv.cells.toList[j]? with
      | none => rw [hj] at hx; simp at hx
      | some u =>
        rw [hj] at hx
        simp at hx
        subst hx
        exact ⟨u, by simpa using hj, by simp [Rep]⟩
  · cases he
theorem ran_box (sim : Sim F s μ a w) {o : Oper} (hh : Own B o.dst h s) {t : TypeId} {x : Operand} (ho : o.op = .box t x) (he : aeff P B o.op o.dst (ev s) h = some (v, ups)) : Ran P F s μ a w o v ups := by
  rw [ho] at he
  simp only [aeff] at he
  have hr := cells_rep (ev_rep sim x)
  have hl := RepL.length hr
  refine ⟨.value (.pointer (some ⟨w.heap.size, 0, none⟩)), _, w.alloc (.cells (a.eval x).cells t), ?_, .inl rfl, ?_⟩
  · simp [execOp, ho, Instr.box, newVar, newRow]
  · refine anew_out sim.hp hh he (a.eval x).cells t (0, 0) (by simp at hl; omega) nofreeze ?_ (by rfl) (by rfl) (by rfl) (by rfl) fun k g μ' M hm => hp_new hm
    intro j y hy
    obtain ⟨u, h1, h2⟩ := RepL.get hr j y hy
    exact ⟨u, by simpa using h1, h2⟩
theorem ran_build (sim : Sim F s μ a w) {o : Oper} {t : TypeId} {ps : Array (Nat × Operand)} (ho : o.op = .build t ps) (he : aeff P B o.op o.dst (ev s) h = some (v, ups)) : Ran P F s μ a w o v ups := by
  rw [ho] at he
  simp only [aeff, Option.map_eq_some_iff] at he
  obtain ⟨v', hb, hv⟩ := he
  cases hv
  have hps : (ps.map fun p => (p.1, a.eval p.2)).toList = ps.toList.map fun p => (p.1, a.eval p.2) := by simp
  unfold abuild at hb
  split at hb
  · rename_i fs sz z b hty
    obtain ⟨i, h1, h2, h3, h4, h5⟩ := tyOf_spec hty
    simp only [Option.map_eq_some_iff] at h4
    obtain ⟨zv, h6, h7⟩ := h4
    split at hb
    · rename_i l hl
      simp only [Option.map_eq_some_iff] at hb
      obtain ⟨cs', hf, rfl⟩ := hb
      obtain ⟨arr', h8, h9⟩ := fill_rep (w := w) (μ := μ) (M := Mof F s μ) (l[·]?) _ _ (z.map .sc) cs' zv.cells (by rw [← h7]; exact RepL_sc _) (parts_rep sim ps.toList) hf
      have hpl := places_ok fs.toList l hl w
      refine Ran.quiet sim.hp (.agg arr') ?_ (by simp only [Rep]; exact ⟨arr', rfl, h9⟩)
      have hpl' : (fs.mapM (fun f => do pure (f.offset, ← sizeOf f.type) : Field → Sem (Nat × Nat))).run P w = .ok l.toArray w := by
        rw [← Array.toArray_toList (xs := fs), List.mapM_toArray]
        simp at hpl ⊢
        simp [hpl]
      simp at hpl'
      rw [← hps] at h8
      simp at h8
      simp [execOp, ho, Instr.build, zeroValue, typeInfo, h2, h6, run_underlying h1, hpl', h8]
    · cases hb
  · rename_i n e sz z b hty
    obtain ⟨i, h1, h2, h3, h4, h5⟩ := tyOf_spec hty
    simp only [Option.map_eq_some_iff] at h4
    obtain ⟨zv, h6, h7⟩ := h4
    split at hb
    · rename_i ty hl
      simp only [Option.map_eq_some_iff] at hb
      obtain ⟨cs', hf, rfl⟩ := hb
      obtain ⟨arr', h8, h9⟩ := fill_rep (w := w) (μ := μ) (M := Mof F s μ) _ _ _ (z.map .sc) cs' zv.cells (by rw [← h7]; exact RepL_sc _) (parts_rep sim ps.toList) hf
      refine Ran.quiet sim.hp (.agg arr') ?_ (by simp only [Rep]; exact ⟨arr', rfl, h9⟩)
      rw [← hps] at h8
      simp at h8
      simp [execOp, ho, Instr.build, zeroValue, typeInfo, h2, h6, run_underlying h1, run_sizeOf' hl, h8]
    · cases hb
  · cases hb
theorem zrow_get {n : Nat} {z : Array Value} (i : Nat) (x : AV) (hx : (zrow n z.toList)[i]? = some x) : i < n * z.size ∧ x = .sc (z[i % z.size]!) := by
  unfold zrow at hx
  split at hx
  · rename_i h1
    have h2 : z.size = 1 := by simpa using h1
    rw [List.getElem?_replicate] at hx
    split at hx
    · cases hx
      refine ⟨by rw [h2]; omega, ?_⟩
      congr 1
      obtain ⟨v, hv⟩ := List.length_eq_one_iff.1 h1
      have : z = #[v] := by rw [← Array.toArray_toList (xs := z), hv]
      subst this
      simp [Nat.mod_one]
    · cases hx
  · have key : ∀ n i x, ((List.replicate n (z.toList.map AV.sc)).flatten)[i]? = some x → i < n * z.size ∧ x = .sc (z[i % z.size]!) := by
      intro n
      induction n with
      | zero => intro i x h; simp at h
      | succ n ih =>
        intro i x hx
        rw [List.replicate_succ, List.flatten_cons] at hx
        by_cases hlt : i < z.size
        · rw [List.getElem?_append_left (by simpa using hlt), List.getElem?_map] at hx
          rw [Nat.mod_eq_of_lt hlt]
          simp [hlt] at hx
          refine ⟨by rw [Nat.succ_mul]; omega, ?_⟩
          rw [← hx]
          simp [hlt]
        · rw [List.getElem?_append_right (by simp; omega)] at hx
          obtain ⟨h3, h4⟩ := ih _ _ hx
          simp only [List.length_map, Array.length_toList] at h3 h4
          refine ⟨by rw [Nat.succ_mul]; omega, ?_⟩
          rw [h4, Nat.mod_eq_sub_mod (a := i) (by omega)]
    exact key n i x hx
theorem zrow_length {n : Nat} {z : Array Value} : (zrow n z.toList).length = n * z.size := by
  unfold zrow
  split
  · rename_i h1
    have : z.size = 1 := by simpa using h1
    simp [this]
  · simp [List.length_flatten]
theorem zrow_ok {n : Nat} {z : Array Value} : RepL w μ (Mof F s μ) (zrow n z.toList) ((Array.range (n * z.size)).map (z[· % z.size]!)).toList := by
  refine RepL.of_get (by rw [zrow_length]; simp) fun i x u hx hu => ?_
  obtain ⟨hi, rfl⟩ := zrow_get i x hx
  rw [Array.getElem?_toList, Array.getElem?_map, Array.getElem?_range, if_pos hi] at hu
  have := Option.some.inj hu
  subst this
  simp [Rep]
theorem ran_buildSlice (sim : Sim F s μ a w) {o : Oper} (hh : Own B o.dst h s) {t : TypeId} {len : Nat} {ps : Array (Nat × Operand)} (ho : o.op = .buildSlice t len ps) (he : aeff P B o.op o.dst (ev s) h = some (v, ups)) : Ran P F s μ a w o v ups := by
  rw [ho] at he
  simp only [aeff, abuildSlice] at he
  have hps : (ps.map fun p => (p.1, a.eval p.2)).toList = ps.toList.map fun p => (p.1, a.eval p.2) := by simp
  split at he
  · rename_i e d sz z b hsl
    obtain ⟨hu, hty⟩ := aslice0_spec hsl
    obtain ⟨i, h1, h2, h3, h4, h5⟩ := tyOf_spec hty
    simp only [Option.map_eq_some_iff] at h4
    obtain ⟨zv, h6, h7⟩ := h4
    subst h7
    split at he
    · rename_i hc
      obtain ⟨hz, hsm⟩ := hc
      have hz' : zv.cells.size = sz := by simpa using hz
      split at he
      · rename_i cs hf
        have hrow := zrow_ok (F := F) (s := s) (μ := μ) (w := w) (n := len) (z := zv.cells)
        obtain ⟨arr', h8, h9⟩ := fill_rep (w := w) (μ := μ) (M := Mof F s μ) _ _ _ _ cs _ hrow (parts_rep sim ps.toList) hf
        have hl := RepL.length h9
        rw [← hps] at h8
        have hlen : cs.length = len * sz := by
          have := RepL.length hrow
          have hfl : ∀ (parts : List (Nat × AV)) (cs cs' : List AV), afill (fun i => some (i * sz, sz)) cs parts = some cs' → cs'.length = cs.length := by
            intro parts
            induction parts with
            | nil => intro cs cs' h; simp only [afill, Option.some.injEq] at h; rw [h]
            | cons p parts ih =>
              obtain ⟨i, x⟩ := p
              intro cs cs' h
              simp only [afill] at h
              split at h
              · rw [ih _ _ h, setAt_length]
              · cases h
          rw [hfl _ _ _ hf, this]
          simp [hz']
        refine ⟨.value (.slice (some ⟨w.heap.size, 0, none⟩) len len), _, w.alloc (.cells arr' e), ?_, .inl rfl, ?_⟩
        · by_cases h0 : len * sz = 0
          · have e0 : (Array.range (len * zv.cells.size)).map (zv.cells[· % zv.cells.size]!) = (Array.range (len * sz)).map (#[][· % (#[] : Array Value).size]!) := by
              rw [hz', h0]; simp
            rw [e0] at h8
            simp at h8
            simp [execOp, ho, Instr.buildSlice, run_underlying hu, run_sizeOf' hty, h0, newRow]
            rw [h0] at h8
            simp [h8]
          · rw [hz'] at h8
            simp at h8
            simp [execOp, ho, Instr.buildSlice, run_underlying hu, run_sizeOf' hty, Nat.not_lt.2 hsm, h0, newRow, zeroValue, typeInfo, h2, h6, hz', h8]
        · refine anew_out sim.hp hh he arr' e (0, 0) (by simp at hl; omega) nofreeze ?_ (by rfl) (by rfl) (by rfl) (by rfl) fun k g μ' M hm => hs_new hm (Nat.le_refl _) (by omega) (by omega) (by simp at hl; omega)
          intro j y hy
          obtain ⟨u, h10, h11⟩ := RepL.get h9 j y hy
          exact ⟨u, by simpa using h10, h11⟩
      · cases he
    · cases he
  · cases he
end
section
variable {P : Program} {F : Nat → Prop} {s : S} {μ : Mu} {a : Act} {w : World} {B : Nat} {h : Nat → AV} {v : AV} {ups : List (Nat × AV)} {M : Nat → Prop}
theorem run_isAgg' {t : TypeId} {d : TypeDesc} (h : P.underlying t = some d) (w : World) : (isAgg t).run P w = .ok (isRow d) w := by
  simp only [isAgg, Sem.run_bind, run_underlying h, Result.andThen]
  cases d <;> rfl
theorem addr_add (c o n : Nat) : (⟨c, o, none⟩ : Addr).add n = ⟨c, o + n, none⟩ := by
  unfold Addr.add
  split
  · rename_i h; simp [h]
  · rfl
theorem cut_load {t : TypeId} {ty : Ty} (hty : tyOf P t = some ty) {cs : List AV} {off c o0 : Nat} (hc : ∀ (i : Nat) (x : AV), cs[i]? = some x → ∃ u, w.cell? ⟨c, o0 + i, none⟩ = some u ∧ Rep w μ M x u)
    (he : acut ty.d ty.sz cs off = some v) : ∃ u, (loadVar t ⟨c, o0 + off, none⟩).run P w = .ok u w ∧ Rep w μ M v u := by
  obtain ⟨i, h1, h2, h3, h4, h5⟩ := tyOf_spec hty
  unfold acut at he
  split at he
  · rename_i hrow
    split at he
    · rename_i hle
      cases he
      have hex : ∀ (n : Nat) (xs : List AV) (o : Nat), (∀ (i : Nat) (x : AV), xs[i]? = some x → ∃ u, w.cell? ⟨c, o + i, none⟩ = some u ∧ Rep w μ M x u) → xs.length = n →
          ∃ us : List Value, us.length = n ∧ RepL w μ M xs us ∧ ∀ (i : Nat) (u : Value), us[i]? = some u → w.cell? ⟨c, o + i, none⟩ = some u := by
        intro n
        induction n with
        | zero => intro xs o _ hl; exact ⟨[], rfl, by rw [List.eq_nil_of_length_eq_zero hl]; simp [RepL], by simp⟩
        | succ n ih =>
          intro xs o hx hl
          cases xs with
          | nil => simp at hl
          | cons x xs =>
            obtain ⟨u, hu1, hu2⟩ := hx 0 x (by simp)
            obtain ⟨us, h6, h7, h8⟩ := ih xs (o + 1) (fun i y hy => by
              have := hx (i + 1) y (by simpa using hy)
              rwa [show o + (i + 1) = o + 1 + i by omega] at this) (by simpa using hl)
            refine ⟨u :: us, by simp [h6], by simp only [RepL]; exact ⟨hu2, h7⟩, fun i u' hi => ?_⟩
            cases i with
            | zero => simp at hi; subst hi; exact hu1
            | succ i =>
              have := h8 i u' (by simpa using hi)
              rwa [show o + 1 + i = o + (i + 1) by omega] at this
      obtain ⟨us, h6, h7, h8⟩ := hex ty.sz ((cs.drop off).take ty.sz) (o0 + off) (fun i x hx => by
        rw [List.getElem?_take] at hx
        split at hx
        · rw [List.getElem?_drop] at hx
          have := hc _ _ hx
          rwa [← Nat.add_assoc] at this
        · cases hx) (by simp; omega)
      refine ⟨.agg us.toArray, ?_, by simp only [Rep]; exact ⟨us.toArray, rfl, h7⟩⟩
      have hl := run_loadCells_list (P := P) w ⟨c, o0 + off, none⟩ us (fun j u hj => by rw [addr_add]; exact h8 j u hj)
      rw [h6] at hl
      simp [loadVar, run_isAgg' h1, hrow, run_sizeOf' hty, hl]
    · cases he
  · rename_i hrow
    obtain ⟨u, hu1, hu2⟩ := hc _ _ he
    refine ⟨u, ?_, hu2⟩
    simp only [Bool.not_eq_true] at hrow
    simp [loadVar, run_isAgg' h1, hrow, load, Sem.run, hu1]
theorem row_cells (hp : Hp F s μ w) {k g st : Nat} {cs : List AV} (hs : s (.h k) = .blk g st cs) (hst : st ≠ 0) {c L A : Nat} (hm : μ k g = some (c, L, A)) :
    (∀ (i : Nat) (x : AV), cs[i]? = some x → ∃ u, w.cell? ⟨c, 0 + i, none⟩ = some u ∧ Rep w μ (Mof F s μ) x u) ∧ L = cs.length := by
  obtain ⟨c', A', arr, e, f, h1, h2, h3, h4, h5, h6⟩ := hp.row k g st cs hs hst
  rw [hm] at h1
  cases h1
  refine ⟨fun i x hx => ?_, rfl⟩
  obtain ⟨_, u, h7, h8⟩ := h6 i x hx
  exact ⟨u, by simp [World.cell?, h2, h7], h8⟩
theorem ran_load (sim : Sim F s μ a w) (hh : Sub h s) {o : Oper} {t : TypeId} {x : Operand} (ho : o.op = .load t x) (he : aeff P B o.op o.dst (ev s) h = some (v, ups)) : Ran P F s μ a w o v ups := by
  rw [ho] at he
  simp only [aeff, Option.map_eq_some_iff] at he
  obtain ⟨v', he, hv⟩ := he
  cases hv
  unfold aload at he
  have hx := ev_rep sim x
  split at he
  · cases he
  · rename_i ty hty
    split at he
    · rename_i k g off hxe
      rw [hxe] at hx
      simp only [Rep] at hx
      obtain ⟨c, L, A, hm, hxv⟩ := hx
      split at he
      · rename_i g' st cs hb
        split at he
        · rename_i hc
          obtain ⟨rfl, hst⟩ := hc
          obtain ⟨hcells, _⟩ := row_cells sim.hp (hh _ _ _ _ hb) hst hm
          obtain ⟨u, h1, h2⟩ := cut_load hty hcells he
          refine Ran.quiet sim.hp u ?_ h2
          rw [Nat.zero_add] at h1
          simp [execOp, ho, hxv, Instr.loadAt, Instr.sureAddr, h1]
        · cases he
      · cases he
    · rename_i xs hxe
      rw [hxe] at hx
      simp only [Rep] at hx
      obtain ⟨b, o1, hxv, hb, hM, hrow⟩ := hx
      obtain ⟨u, h1, h2⟩ := cut_load (M := Mof F s μ) (c := b) (o0 := o1) hty (fun i x hi => (Row.get hrow i x hi).2) he
      refine Ran.quiet sim.hp u ?_ h2
      rw [Nat.add_zero] at h1
      simp [execOp, ho, hxv, Instr.loadAt, Instr.sureAddr, h1]
    · cases he
theorem one_oneCell {v : Value} (h : oneV v = true) : v.oneCell' = true := by cases v <;> simp_all [oneV, Value.oneCell']
theorem ran_store (sim : Sim F s μ a w) (hh : Sub h s) {o : Oper} {t : TypeId} {x y : Operand} (ho : o.op = .store t x y) (he : aeff P B o.op o.dst (ev s) h = some (v, ups)) : Ran P F s μ a w o v ups := by
  rw [ho] at he
  simp only [aeff] at he
  unfold astore at he
  have hx := ev_rep sim x
  have hy := cells_rep (ev_rep sim y)
  split at he
  · cases he
  · rename_i ty hty
    split at he
    · rename_i k g off hxe
      rw [hxe] at hx
      simp only [Rep] at hx
      obtain ⟨c, L, A, hm, hxv⟩ := hx
      split at he
      · rename_i g' st cs hb
        split at he
        · rename_i hc
          obtain ⟨rfl, rfl, hl, hoff, hone⟩ := hc
          cases he
          obtain ⟨c', L', A', h1, h2, h3, h4, h5⟩ := store_out (P := P) sim.hp (hh _ _ _ _ hb) off _ _ (by rw [hl]; exact hoff) (by simpa using hone) hy
          rw [hm] at h1
          cases h1
          refine ⟨.skip, undef, _, ?_, .inr ⟨rfl, rfl⟩, h5 _ _ fun w' => by simp [Rep]⟩
          have hst := run_storeCells_cells (P := P) c off (a.eval y).cells.toList 0 w (fun j hj => by simpa using h2 j hj) (fun j hj => by simpa using h3 j hj) (fun u hu => one_oneCell (h4 u hu))
          have hsz : (a.eval y).cells.size = ty.sz := by have := RepL.length hy; simp at this; omega
          simp only [Nat.add_zero] at hst
          simp [execOp, ho, hxv, Instr.storeAt, Instr.sureAddr, storeVar, run_sizeOf' hty, hsz, hst]
        · cases he
      · cases he
    · cases he
theorem eqGuard_quiet {op : BinOp} {t : TypeId} {x y : Operand} {u v : Value} (h1 : ∀ z, u ≠ .agg z) (h2 : u ≠ .nilIface) : (eqGuard op t x y u v).run P w = .ok () w := by
  unfold eqGuard
  cases op <;> first
    | rfl
    | (cases u <;> first | rfl | exact absurd rfl h2 | exact absurd rfl (h1 _))
theorem ibin_ok {op : BinOp} {t : TypeId} {k : IntKind} {m n : Int} {r : Value} (h : ibin op k m n = some r) : (binOp op t (.int k m) (.int k n)).run P w = .ok r w := by
  cases op <;> simp only [ibin] at h <;> first
    | (simp only [Option.some.injEq] at h; subst h; simp [binOp, Op.intArith, Op.intBits, Op.intCmp, bAnd, bOr, bXor]; done)
    | (split at h; cases h; rename_i hn; simp only [Option.some.injEq] at h; subst h; simp [binOp, Op.intDiv, hn]; done)
    | cases h
theorem sbin_ok {op : BinOp} {t : TypeId} {m n : ByteArray} {r : Value} (h : sbin op m n = some r) : (binOp op t (.string m) (.string n)).run P w = .ok r w := by
  cases op <;> simp only [sbin] at h <;> first
    | (split at h
       · rename_i hn; simp only [Option.some.injEq] at h; subst h
         have : ¬ (9223372036854775807 < ((m.size : Int) + (n.size : Int))) := by omega
         simp [binOp, Op.stringOp, this]
       · cases h)
    | (simp only [Option.some.injEq] at h; subst h; simp [binOp, Op.stringOp]; done)
    | cases h
end
section
variable {P : Program} {F : Nat → Prop} {s : S} {μ : Mu} {a : Act} {w : World} {B : Nat} {h : Nat → AV} {v : AV} {ups : List (Nat × AV)} {M : Nat → Prop}
theorem rep_sc {u x : Value} (h : Rep w μ M (.sc u) x) : x = u := by simpa [Rep] using h
theorem nilS_ok {a : AV} {v x : Value} (h : nilS a v = true) (hr : Rep w μ M a x) : (∃ ad n c, x = .slice (some ad) n c) ∧ ∃ n c, v = .slice none n c := by
  unfold nilS at h
  split at h
  · simp only [Rep] at hr
    obtain ⟨_, _, _, _, _, rfl, _⟩ := hr
    exact ⟨⟨_, _, _, rfl⟩, _, _, rfl⟩
  · simp only [Rep] at hr
    obtain ⟨_, _, rfl, _, hr | ⟨_, _, rfl, _⟩⟩ := hr
    · cases hr
    · exact ⟨⟨_, _, _, rfl⟩, _, _, rfl⟩
  · cases h
theorem nilP_ok {a : AV} {v x : Value} (h : nilP a v = true) (hr : Rep w μ M a x) : (∃ ad, x = .pointer (some ad)) ∧ v = .pointer none := by
  unfold nilP at h
  split at h
  · simp only [Rep] at hr
    obtain ⟨_, _, _, _, rfl⟩ := hr
    exact ⟨⟨_, rfl⟩, rfl⟩
  · simp only [Rep] at hr
    obtain ⟨_, _, rfl, _⟩ := hr
    exact ⟨⟨_, rfl⟩, rfl⟩
  · cases h
theorem eqS {t e : TypeId} (ht : P.underlying t = some (.slice e)) (ad : Addr) (n c n' c' : Nat) : (Op.equal t (.slice (some ad) n c) (.slice none n' c')).run P w = .ok false w := by
  have h : ∀ d : Nat, (Op.equalIn (d + 1) t (.slice (some ad) n c) (.slice none n' c')).run P w = .ok false w := fun d => by simp [Op.equalIn, run_underlying ht]
  exact h 9999
theorem eqP {t e : TypeId} (ht : P.underlying t = some (.pointer e)) (ad : Addr) : (Op.equal t (.pointer (some ad)) (.pointer none)).run P w = .ok false w := by
  have h : ∀ d : Nat, (Op.equalIn (d + 1) t (.pointer (some ad)) (.pointer none)).run P w = .ok false w := fun d => by simp [Op.equalIn, run_underlying ht]
  exact h 9999
theorem bin_eql {t : TypeId} {x y : Value} (hb : binOp .eql t x y = (do pure (.bool (← Op.equal t x y)))) {b : Bool} (he : (Op.equal t x y).run P w = .ok b w) : (binOp .eql t x y).run P w = .ok (.bool b) w := by
  rw [hb, Sem.run_bind, he]; rfl
theorem bin_neq {t : TypeId} {x y : Value} (hb : binOp .neq t x y = (do pure (.bool (!(← Op.equal t x y))))) {b : Bool} (he : (Op.equal t x y).run P w = .ok b w) : (binOp .neq t x y).run P w = .ok (.bool (!b)) w := by
  rw [hb, Sem.run_bind, he]; rfl
theorem abin_ok {op : BinOp} {t : TypeId} {x y : Operand} {p q v : AV} {m n : Value} (he : abin P op t x y p q = some v) (hm : Rep w μ M p m) (hn : Rep w μ M q n) :
    ∃ r, (eqGuard op t x y m n).run P w = .ok () w ∧ (binOp op t m n).run P w = .ok r w ∧ Rep w μ M v r ∨ ∃ r, (do eqGuard op t x y m n; binOp op t m n : Sem Value).run P w = .ok r w ∧ Rep w μ M v r := by
  unfold abin at he
  split at he
  · rename_i k i k' j
    have := rep_sc hm; subst this
    have := rep_sc hn; subst this
    have hg : (eqGuard op t x y (.int k i) (.int k' j)).run P w = .ok () w := eqGuard_quiet (fun _ h => by cases h) (by simp)
    have hsh : (op = .shl ∨ op = .shr) → ∃ r, (binOp op t (.int k i) (.int k' j)).run P w = .ok r w ∧ Rep w μ M v r := by
      rintro (rfl | rfl)
      · simp only at he
        split at he
        · cases he
        · rename_i hj
          cases he
          exact ⟨_, by simp only [binOp, Op.shift, if_neg hj]; rfl, by simp [Rep]⟩
      · simp only at he
        split at he
        · cases he
        · rename_i hj
          cases he
          exact ⟨_, by simp only [binOp, Op.shift, if_neg hj]; rfl, by simp [Rep]⟩
    by_cases hs : op = .shl ∨ op = .shr
    · obtain ⟨r, h1, h2⟩ := hsh hs
      exact ⟨r, .inl ⟨hg, h1, h2⟩⟩
    · have he2 : (if k = k' then (ibin op k i j).map AV.sc else none) = some v := by
        cases op <;> first | exact he | exact absurd (.inl rfl) hs | exact absurd (.inr rfl) hs
      split at he2
      · rename_i hk
        subst hk
        simp only [Option.map_eq_some_iff] at he2
        obtain ⟨r, h1, rfl⟩ := he2
        exact ⟨r, .inl ⟨hg, ibin_ok h1, by simp [Rep]⟩⟩
      · cases he2
  · have := rep_sc hm; subst this
    have := rep_sc hn; subst this
    simp only [Option.map_eq_some_iff] at he
    obtain ⟨r, h1, rfl⟩ := he
    exact ⟨r, .inl ⟨eqGuard_quiet (fun _ h => by cases h) (by simp), sbin_ok h1, by simp [Rep]⟩⟩
  · have := rep_sc hm; subst this
    have := rep_sc hn; subst this
    simp only [Option.map_eq_some_iff] at he
    obtain ⟨r, h1, rfl⟩ := he
    exact ⟨undef, .inr ⟨r, pureRun_ok h1 w, by simp [Rep]⟩⟩
  · rename_i p u _ _ _
    have := rep_sc hn; subst this
    split at he
    · rename_i e _ _ _ hty
      obtain ⟨i, h1, _⟩ := tyOf_spec hty
      split at he
      · rename_i hni
        cases he
        obtain ⟨⟨ad, n1, c1, rfl⟩, n2, c2, rfl⟩ := nilS_ok hni hm
        exact ⟨.bool false, .inl ⟨eqGuard_quiet (fun _ h => by cases h) (by simp), bin_eql rfl (eqS h1 _ _ _ _ _), by simp [Rep]⟩⟩
      · cases he
    · rename_i e _ _ _ hty
      obtain ⟨i, h1, _⟩ := tyOf_spec hty
      split at he
      · rename_i hni
        cases he
        obtain ⟨⟨ad, n1, c1, rfl⟩, n2, c2, rfl⟩ := nilS_ok hni hm
        exact ⟨.bool true, .inl ⟨eqGuard_quiet (fun _ h => by cases h) (by simp), bin_neq rfl (eqS h1 _ _ _ _ _), by simp [Rep]⟩⟩
      · cases he
    · rename_i e _ _ _ hty
      obtain ⟨i, h1, _⟩ := tyOf_spec hty
      split at he
      · rename_i hni
        cases he
        obtain ⟨⟨ad, rfl⟩, rfl⟩ := nilP_ok hni hm
        exact ⟨.bool false, .inl ⟨eqGuard_quiet (fun _ h => by cases h) (by simp), bin_eql rfl (eqP h1 _), by simp [Rep]⟩⟩
      · cases he
    · rename_i e _ _ _ hty
      obtain ⟨i, h1, _⟩ := tyOf_spec hty
      split at he
      · rename_i hni
        cases he
        obtain ⟨⟨ad, rfl⟩, rfl⟩ := nilP_ok hni hm
        exact ⟨.bool true, .inl ⟨eqGuard_quiet (fun _ h => by cases h) (by simp), bin_neq rfl (eqP h1 _), by simp [Rep]⟩⟩
      · cases he
    · cases he
  · cases he
theorem ran_binOp (sim : Sim F s μ a w) {o : Oper} {op : BinOp} {t yt : TypeId} {x y : Operand} (ho : o.op = .binOp op t x y yt) (he : aeff P B o.op o.dst (ev s) h = some (v, ups)) : Ran P F s μ a w o v ups := by
  rw [ho] at he
  simp only [aeff, Option.map_eq_some_iff] at he
  obtain ⟨v', he, hv⟩ := he
  cases hv
  obtain ⟨r, ⟨h1, h2, h3⟩ | ⟨r', h1, h2⟩⟩ := abin_ok he (ev_rep sim x) (ev_rep sim y)
  · exact Ran.quiet sim.hp r (by simp [execOp, ho, h1, h2]) h3
  · refine Ran.quiet sim.hp r' ?_ h2
    simp only [execOp, ho, Sem.run_bind] at h1 ⊢
    rw [h1]
    rfl
theorem ran_unOp (sim : Sim F s μ a w) {o : Oper} {op : UnOp} {t : TypeId} {x : Operand} (ho : o.op = .unOp op t x) (he : aeff P B o.op o.dst (ev s) h = some (v, ups)) : Ran P F s μ a w o v ups := by
  rw [ho] at he
  simp only [aeff, Option.map_eq_some_iff] at he
  obtain ⟨v', he, hv⟩ := he
  cases hv
  have hx := ev_rep sim x
  unfold aun at he
  split at he
  · rename_i k n hxe
    rw [hxe] at hx
    have hx := rep_sc hx
    split at he
    · cases he
      exact Ran.quiet sim.hp _ (by simp [execOp, ho, hx, Op.unary, Op.intArith]; rfl) (by simp [Rep])
    · cases he
      exact Ran.quiet sim.hp (.int k (bNot k n)) (by simp [execOp, ho, hx, Op.unary, Op.intBits, bNot]) (by simp [Rep])
    · cases he
  · rename_i b hxe
    rw [hxe] at hx
    have hx := rep_sc hx
    split at he
    · cases he
      exact Ran.quiet sim.hp _ (by simp [execOp, ho, hx, Op.unary]; rfl) (by simp [Rep])
    · cases he
  · rename_i u _ _ hxe
    rw [hxe] at hx
    have hx := rep_sc hx
    simp only [Option.map_eq_some_iff] at he
    obtain ⟨r, h1, rfl⟩ := he
    exact Ran.quiet sim.hp r (by simp [execOp, ho, hx, pureRun_ok h1 w]) (by simp [Rep])
  · cases he
theorem ran_extract (sim : Sim F s μ a w) {o : Oper} {x : Operand} {i : Nat} (ho : o.op = .extract x i) (he : aeff P B o.op o.dst (ev s) h = some (v, ups)) : Ran P F s μ a w o v ups := by
  rw [ho] at he
  simp only [aeff, Option.map_eq_some_iff] at he
  obtain ⟨v', he, hv⟩ := he
  cases hv
  have hx := ev_rep sim x
  unfold aextract at he
  split at he
  · rename_i cs hxe
    rw [hxe] at hx
    simp only [Rep] at hx
    obtain ⟨vs, hxv, hr⟩ := hx
    obtain ⟨u, h1, h2⟩ := RepL.get hr i _ he
    refine Ran.quiet sim.hp u ?_ h2
    simp only [Array.getElem?_toList] at h1
    simp [execOp, ho, hxv, Instr.extract, h1]
  · rename_i vs hxe
    rw [hxe] at hx
    have hx := rep_sc hx
    simp only [Option.map_eq_some_iff, Array.getElem?_toList] at he
    obtain ⟨u, h1, rfl⟩ := he
    exact Ran.quiet sim.hp u (by simp [execOp, ho, hx, Instr.extract, h1]) (by simp [Rep])
  · cases he
theorem fieldOf_spec {t : TypeId} {f : Nat} {fd : Field} {ty : Ty} (h : fieldOf P t f = some (fd, ty)) : ∃ fs, P.underlying t = some (.struct fs) ∧ fs[f]? = some fd ∧ tyOf P fd.type = some ty := by
  unfold fieldOf at h
  split at h
  · rename_i fs _ _ _ hty
    obtain ⟨i, h1, _⟩ := tyOf_spec hty
    split at h
    · rename_i fd' hf
      simp only [Option.map_eq_some_iff] at h
      obtain ⟨ty', h2, h3⟩ := h
      cases h3
      exact ⟨fs, h1, hf, h2⟩
    · cases h
  · cases h
theorem ran_fieldAddr (sim : Sim F s μ a w) {o : Oper} {t : TypeId} {x : Operand} {f : Nat} (ho : o.op = .fieldAddr t x f) (he : aeff P B o.op o.dst (ev s) h = some (v, ups)) : Ran P F s μ a w o v ups := by
  rw [ho] at he
  simp only [aeff, Option.map_eq_some_iff] at he
  obtain ⟨v', he, hv⟩ := he
  cases hv
  have hx := ev_rep sim x
  unfold afieldAddr at he
  split at he
  · rename_i fd ty hf
    obtain ⟨fs, h1, h2, h3⟩ := fieldOf_spec hf
    split at he
    · cases he
    · rename_i hz
      have hz' : (sizeOf fd.type).run P w = .ok ty.sz w := run_sizeOf' h3 w
      split at he
      · rename_i k g off hxe
        rw [hxe] at hx
        cases he
        simp only [Rep] at hx
        obtain ⟨c, L, A, h4, hxv⟩ := hx
        refine Ran.quiet sim.hp (.pointer (some ⟨c, off + fd.offset, none⟩)) ?_ (by simp only [Rep]; exact ⟨c, L, A, h4, rfl⟩)
        simp [execOp, ho, hxv, Instr.fieldAt, run_underlying h1, h2, Instr.sureAddr, fieldPlace, hz', hz, addr_add]
      · rename_i xs hxe
        rw [hxe] at hx
        cases he
        simp only [Rep] at hx
        obtain ⟨b, o1, hxv, h5, h6, h7⟩ := hx
        refine Ran.quiet sim.hp (.pointer (some ⟨b, o1 + fd.offset, none⟩)) ?_ (by simp only [Rep]; exact ⟨b, _, rfl, h5, h6, Row.drop h7 _⟩)
        simp [execOp, ho, hxv, Instr.fieldAt, run_underlying h1, h2, Instr.sureAddr, fieldPlace, hz', hz, addr_add]
      · cases he
  · cases he
theorem acut_part {t : TypeId} {ty : Ty} (hty : tyOf P t = some ty) {cs : List AV} {us : Array Value} {off : Nat} (hr : RepL w μ M cs us.toList) (he : acut ty.d ty.sz cs off = some v) :
    ∃ u, (part t us off).run P w = .ok u w ∧ Rep w μ M v u := by
  obtain ⟨i, h1, h2, h3, h4, h5⟩ := tyOf_spec hty
  have hl := RepL.length hr
  unfold acut at he
  split at he
  · rename_i hrow
    split at he
    · rename_i hle
      cases he
      refine ⟨.agg (us.extract off (off + ty.sz)), by simp [part, run_isAgg' h1, hrow, run_sizeOf' hty], ?_⟩
      simp only [Rep]
      refine ⟨_, rfl, RepL.of_get (by simp at hl ⊢; omega) fun i x u hx hu => ?_⟩
      rw [List.getElem?_take] at hx
      split at hx
      · rename_i hi
        rw [List.getElem?_drop] at hx
        have hi2 : off + i < us.size := by simp at hl; omega
        have hu2 : us.toList[off + i]? = some u := by
          rw [Array.toList_extract, List.extract_eq_take_drop, List.getElem?_take, List.getElem?_drop] at hu
          split at hu
          · exact hu
          · cases hu
        exact RepL.getR hr _ _ _ hx hu2
      · cases hx
    · cases he
  · rename_i hrow
    simp only [Bool.not_eq_true] at hrow
    obtain ⟨u, h6, h7⟩ := RepL.get hr _ _ he
    simp only [Array.getElem?_toList] at h6
    exact ⟨u, by simp [part, run_isAgg' h1, hrow, h6], h7⟩
theorem ran_field (sim : Sim F s μ a w) {o : Oper} {t : TypeId} {x : Operand} {f : Nat} (ho : o.op = .field t x f) (he : aeff P B o.op o.dst (ev s) h = some (v, ups)) : Ran P F s μ a w o v ups := by
  rw [ho] at he
  simp only [aeff, Option.map_eq_some_iff] at he
  obtain ⟨v', he, hv⟩ := he
  cases hv
  have hx := ev_rep sim x
  unfold afield at he
  split at he
  · rename_i fd ty hf
    obtain ⟨fs, h1, h2, h3⟩ := fieldOf_spec hf
    split at he
    · rename_i cs hxe
      rw [hxe] at hx
      simp only [Rep] at hx
      obtain ⟨us, hxv, hr⟩ := hx
      obtain ⟨u, h4, h5⟩ := acut_part h3 hr he
      exact Ran.quiet sim.hp u (by simp [execOp, ho, hxv, Instr.field, run_underlying h1, h2, asAgg, h4]) h5
    · rename_i us hxe
      rw [hxe] at hx
      have hx := rep_sc hx
      obtain ⟨u, h4, h5⟩ := acut_part (μ := μ) (M := Mof F s μ) h3 (RepL_sc us.toList) he
      exact Ran.quiet sim.hp u (by simp [execOp, ho, hx, Instr.field, run_underlying h1, h2, asAgg, h4]) h5
    · cases he
  · cases he
end
end Go.Ab
end

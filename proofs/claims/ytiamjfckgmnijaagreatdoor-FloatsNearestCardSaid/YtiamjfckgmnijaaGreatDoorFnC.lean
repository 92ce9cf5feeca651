import Derived.Test.YtiamjfckgmnijaaGreatDoorFnB
import Derived.Laws.IdiomStrings
import Derived.Laws.BytesString
set_option linter.all false
section
namespace Go.Ab
open Go
section
variable {P : Program} {F : Nat → Prop} {s : S} {μ : Mu} {a : Act} {w : World} {B : Nat} {h : Nat → AV} {v : AV} {ups : List (Nat × AV)} {M : Nat → Prop}
theorem wrap_fit {n : Int} (h0 : 0 ≤ n) (h1 : n ≤ 281474976710656) : IntKind.i64.wrap n = n := by
  simp [IntKind.wrap, IntKind.bits, IntKind.signed]
  omega
theorem ran_makeSlice (sim : Sim F s μ a w) {o : Oper} (hh : Own B o.dst h s) {t : TypeId} {x y : Operand} (ho : o.op = .makeSlice t x y) (he : aeff P B o.op o.dst (ev s) h = some (v, ups)) : Ran P F s μ a w o v ups := by
  rw [ho] at he
  simp only [aeff] at he
  unfold amake at he
  have hx := ev_rep sim x
  have hy := ev_rep sim y
  split at he
  · rename_i e d sz z by_ kl l kc c hsl hxe hye
    obtain ⟨hu, hty⟩ := aslice0_spec hsl
    obtain ⟨i, h1, h2, h3, h4, h5⟩ := tyOf_spec hty
    rw [hxe] at hx
    rw [hye] at hy
    have hx := rep_sc hx
    have hy := rep_sc hy
    simp only [Option.map_eq_some_iff] at h4
    obtain ⟨zv, h6, h7⟩ := h4
    subst h7
    split at he
    · rename_i hc
      obtain ⟨hz, h8, h9, h10, h11⟩ := hc
      have hz' : zv.cells.size = sz := by simpa using hz
      simp only at h3 h5
      have hc48 : c ≤ 281474976710656 := by
        have : (1 : Int) * c ≤ (by_ : Int) * c := Int.mul_le_mul_of_nonneg_right (by omega) (by omega)
        omega
      have hwc : IntKind.i64.wrap c = c := wrap_fit (by omega) hc48
      have hwl : IntKind.i64.wrap l = l := wrap_fit h8 (by omega)
      let arr : Array Value := (Array.range (c.toNat * sz)).map (zv.cells[· % zv.cells.size]!)
      have hle : l.toNat * sz ≤ c.toNat * sz := Nat.mul_le_mul_right _ (by omega)
      refine ⟨.value (.slice (some ⟨w.heap.size, 0, none⟩) l.toNat c.toNat), _, w.alloc (.cells arr e), ?_, .inl rfl, ?_⟩
      · have hc0 : ¬ (c < 0) := by omega
        have hl0 : ¬ (l < 0) := by omega
        have hlc : ¬ (c < l) := by omega
        have hb : ¬ (281474976710656 < (by_ : Int) * c) := by omega
        by_cases h0 : c.toNat * sz = 0
        · have : arr = (Array.range 0).map (fun x => (#[] : Array Value)[x % 0]!) := by
            simp only [arr, h0]; simp
          rw [this]
          rcases Nat.mul_eq_zero.1 h0 with h0' | h0' <;>
          simp [execOp, ho, hx, hy, Instr.makeSlice, run_underlying hu, run_sizeOf' hty, typeInfo, h2, asInt, asIntOf, hwc, hwl, h5, hc0, hl0, hlc, hb, newRow, h0']
        · simp [execOp, ho, hx, hy, Instr.makeSlice, run_underlying hu, run_sizeOf' hty, typeInfo, h2, asInt, asIntOf, hwc, hwl, h5, hc0, hl0, hlc, hb, newRow, zeroValue, h6, arr]
          intro hz0; exact absurd hz0 h0
      · have hlen : (zrow l.toNat zv.cells.toList).length = l.toNat * sz := by rw [zrow_length, hz']
        have has : arr.size = c.toNat * sz := by simp [arr]
        refine anew_out sim.hp hh he arr e (0, 0) (by omega) nofreeze ?_ (by rfl) (by rfl) (by rfl) (by rfl) fun k g μ' M hm => hs_new hm (by omega) (by omega) (by omega) (by omega)
        intro j q hq
        obtain ⟨hj, rfl⟩ := zrow_get j q hq
        rw [hz'] at hj
        exact ⟨zv.cells[j % zv.cells.size]!, by simp only [arr]; rw [Array.getElem?_map, Array.getElem?_range, if_pos (by omega)]; rfl, by simp [Rep]⟩
    · cases he
  · cases he
theorem bnd_ok {o : Option AV} {ov : Option Value} {d n : Nat} (h : bnd o d = some n) (hr : ∀ x, o = some x → ∃ v, ov = some v ∧ Rep w μ M x v) (hn : o = none → ov = none) :
    (o = none ∧ ov = none ∧ n = d) ∨ ∃ k, ∃ i : Int, ov = some (.int k i) ∧ 0 ≤ i ∧ n = i.toNat := by
  unfold bnd at h
  split at h
  · cases h; exact .inl ⟨rfl, hn rfl, rfl⟩
  · rename_i k i
    split at h
    · rename_i h0
      cases h
      obtain ⟨v, h1, h2⟩ := hr _ rfl
      have := rep_sc h2
      subst this
      exact .inr ⟨k, i, h1, h0, rfl⟩
    · cases h
  · cases h
theorem map_rep (sim : Sim F s μ a w) (x : Option Operand) : (∀ y, x.map (ev s) = some y → ∃ v, x.map a.eval = some v ∧ Rep w μ (Mof F s μ) y v) ∧ (x.map (ev s) = none → x.map a.eval = none) := by
  cases x with
  | none => simp
  | some x => simp; exact ev_rep sim x
theorem bounds_run {isS : Bool} {lo hi : Option AV} {lv hv : Option Value} {n cap l r : Nat} (h1 : bnd lo 0 = some l) (h2 : bnd hi n = some r) (hlr : l ≤ r) (hrc : r ≤ cap)
    (hl : (∀ y, lo = some y → ∃ v, lv = some v ∧ Rep w μ M y v) ∧ (lo = none → lv = none)) (hh : (∀ y, hi = some y → ∃ v, hv = some v ∧ Rep w μ M y v) ∧ (hi = none → hv = none)) :
    (Instr.sliceBounds isS n cap lv hv none).run P w = .ok (l, r, cap) w := by
  rcases bnd_ok h1 hl.1 hl.2 with ⟨_, rfl, rfl⟩ | ⟨kl, i, rfl, hi0, rfl⟩ <;> rcases bnd_ok h2 hh.1 hh.2 with ⟨_, rfl, rfl⟩ | ⟨kr, j, rfl, hj0, rfl⟩
  · simp [Instr.sliceBounds]
  · simp [Instr.sliceBounds, run_sliceBound, hj0, show j ≤ (cap : Int) by omega]
  · simp [Instr.sliceBounds, run_sliceBound, hi0, show i ≤ (r : Int) by omega]
  · have hsl : (Instr.sliceBound (.int kl i) j.toNat .sliceB).run P w = .ok i.toNat w := by
      rw [run_sliceBound _ _ _ _ _ hi0 (by omega)]
    simp [Instr.sliceBounds, run_sliceBound, hj0, show j ≤ (cap : Int) by omega, hsl]
theorem run_slice_row {t e : TypeId} {ty : Ty} (hu : P.underlying t = some (.slice e)) (hty : tyOf P e = some ty) {ad : Option Addr} {n cap l r : Nat} {lv hv : Option Value}
    (hb : (Instr.sliceBounds true n cap lv hv none).run P w = .ok (l, r, cap) w) :
    (Instr.sliceAt t (.slice ad n cap) lv hv none).run P w = .ok (.slice (if cap = l then ad else ad.map (·.add (l * ty.sz))) (r - l) (cap - l)) w := by
  simp [Instr.sliceAt, Instr.slice, run_underlying hu, hb, run_sizeOf' hty]
theorem ran_slice (sim : Sim F s μ a w) (hh : Sub h s) {o : Oper} {t : TypeId} {x : Operand} {lo hi mx : Option Operand} (ho : o.op = .slice t x lo hi mx) (he : aeff P B o.op o.dst (ev s) h = some (v, ups)) : Ran P F s μ a w o v ups := by
  rw [ho] at he
  simp only [aeff, Option.map_eq_some_iff] at he
  obtain ⟨v', he, hv⟩ := he
  cases hv
  have hx := ev_rep sim x
  unfold aslice at he
  split at he
  · rename_i str hxe
    rw [hxe] at hx
    have hx := rep_sc hx
    split at he
    · rename_i _ _ _ l r hty hlo hhi hmx
      obtain ⟨i, h1, _⟩ := tyOf_spec hty
      split at he
      · rename_i hc
        cases he
        have hb := bounds_run (P := P) (isS := false) (cap := str.size) hlo hhi hc.1 hc.2 (map_rep sim lo) (map_rep sim hi)
        have hm : mx = none := by cases mx with | none => rfl | some m => simp at hmx
        exact Ran.quiet sim.hp _ (by simp [execOp, ho, hx, Instr.sliceAt, Instr.slice, run_underlying h1, hm, hb]; rfl) (by simp [Rep])
      · cases he
    · cases he
  · rename_i n xs hxe
    rw [hxe] at hx
    split at he
    · rename_i _ ty l r hsl hlo hhi hmx
      obtain ⟨hu, hty⟩ := aslice0_spec hsl
      split at he
      · rename_i hc
        cases he
        simp only [Rep] at hx
        obtain ⟨ad, cap, hxv, hcap, hrow⟩ := hx
        have hb := bounds_run (P := P) (isS := true) (cap := cap) hlo hhi hc.1 (by omega) (map_rep sim lo) (map_rep sim hi)
        have hm : mx = none := by cases mx with | none => rfl | some m => simp at hmx
        have hr := run_slice_row hu hty (ad := ad) hb
        refine Ran.quiet sim.hp _ (by simp only [execOp, ho, hxv, hm, Option.map_none, Sem.run_bind, hr]; rfl) ?_
        simp only [Rep]
        refine ⟨_, _, rfl, by omega, ?_⟩
        by_cases h0 : cap = l
        · left
          have : r - l = 0 := by omega
          simp [this]
        · rw [if_neg h0]
          rcases hrow with rfl | ⟨b, o1, rfl, h3, h4⟩
          · left; simp
          · right
            exact ⟨b, o1 + l * ty.sz, by simp [addr_add], h3, (Row.drop h4 _).take _⟩
      · cases he
    · cases he
  · rename_i k g off n z hxe
    rw [hxe] at hx
    split at he
    · rename_i _ ty l r g' st cs hsl hlo hhi hmx hb0
      obtain ⟨hu, hty⟩ := aslice0_spec hsl
      split at he
      · rename_i hc
        cases he
        obtain ⟨rfl, hlr, hro, hz0, rfl, hst, hl0⟩ := hc
        simp only [Rep] at hx
        obtain ⟨c, L, A, cap, h1, hxv, h2, h3, h4, h5⟩ := hx
        obtain ⟨_, hL⟩ := row_cells sim.hp (hh _ _ _ _ hb0) hst h1
        have hrc : r ≤ cap := by
          have : off + r * ty.sz ≤ off + cap * ty.sz := by omega
          exact Nat.le_of_mul_le_mul_right (by omega : r * ty.sz ≤ cap * ty.sz) hz0
        have hb := bounds_run (P := P) (isS := true) (cap := cap) hlo hhi hlr hrc (map_rep sim lo) (map_rep sim hi)
        have hm : mx = none := by cases mx with | none => rfl | some m => simp at hmx
        have hr := run_slice_row hu hty (ad := some ⟨c, off, none⟩) hb
        refine Ran.quiet sim.hp _ (by simp only [execOp, ho, hxv, hm, Option.map_none, Sem.run_bind, hr]; rfl) ?_
        simp only [Rep]
        have e1 : (r - l) * ty.sz = r * ty.sz - l * ty.sz := Nat.sub_mul _ _ _
        have e2 : (cap - l) * ty.sz = cap * ty.sz - l * ty.sz := Nat.sub_mul _ _ _
        have e3 : l * ty.sz ≤ r * ty.sz := Nat.mul_le_mul_right _ hlr
        have e4 : r * ty.sz ≤ cap * ty.sz := Nat.mul_le_mul_right _ hrc
        refine ⟨c, L, A, cap - l, h1, ?_, by omega, by omega, by omega, by omega⟩
        by_cases h0 : cap = l
        · rw [if_pos h0]
          have : l = 0 := by omega
          subst this
          simp
        · rw [if_neg h0]
          simp [addr_add]
      · cases he
    · cases he
  · rename_i hxe
    rw [hxe] at hx
    have hx := rep_sc hx
    split at he
    · rename_i e hsl hlo hhi hmx
      obtain ⟨hu, hty⟩ := aslice0_spec (e := e.1) (ty := e.2) hsl
      cases he
      have hb := bounds_run (P := P) (isS := true) (cap := 0) hlo hhi (Nat.le_refl _) (Nat.le_refl _) (map_rep sim lo) (map_rep sim hi)
      have hm : mx = none := by cases mx with | none => rfl | some m => simp at hmx
      have hr := run_slice_row hu hty (ad := none) hb
      exact Ran.quiet sim.hp _ (by simp only [execOp, ho, hx, hm, Option.map_none, Sem.run_bind, hr]; rfl) (by simp [Rep])
    · cases he
  · cases he
theorem ran_indexAddr (sim : Sim F s μ a w) {o : Oper} {t : TypeId} {x y : Operand} (ho : o.op = .indexAddr t x y) (he : aeff P B o.op o.dst (ev s) h = some (v, ups)) : Ran P F s μ a w o v ups := by
  rw [ho] at he
  simp only [aeff, Option.map_eq_some_iff] at he
  obtain ⟨v', he, hv⟩ := he
  cases hv
  have hx := ev_rep sim x
  have hy := ev_rep sim y
  unfold aindexAddr at he
  split at he
  · rename_i k i hye
    rw [hye] at hy
    have hy := rep_sc hy
    split at he
    · rename_i _ ty n xs hsl hxe
      obtain ⟨hu, hty⟩ := aslice0_spec hsl
      rw [hxe] at hx
      split at he
      · rename_i hc
        cases he
        obtain ⟨h0, h1, h2⟩ := hc
        simp only [Rep] at hx
        obtain ⟨ad, cap, hxv, hcap, hrow⟩ := hx
        rcases hrow with rfl | ⟨b, o1, rfl, h3, h4⟩
        · simp at h2
        · refine Ran.quiet sim.hp (.pointer (some ⟨b, o1 + i.toNat * ty.sz, none⟩)) ?_ ?_
          · simp [execOp, ho, hxv, hy, Instr.indexAt, run_underlying hu, asIntOf, h0, h1, run_sizeOf' hty, addr_add]
          · simp only [Rep]
            refine ⟨b, _, rfl, ?_, h3, Row.drop h4 _⟩
            obtain ⟨_, u, h5, _⟩ := Row.get h4 _ _ (List.getElem?_eq_getElem h2)
            exact cell_lt h5
      · cases he
    · rename_i _ ty k2 g off n z hsl hxe
      obtain ⟨hu, hty⟩ := aslice0_spec hsl
      rw [hxe] at hx
      split at he
      · rename_i hc
        cases he
        obtain ⟨h0, h1, rfl⟩ := hc
        simp only [Rep] at hx
        obtain ⟨c, L, A, cap, h2, hxv, h3⟩ := hx
        refine Ran.quiet sim.hp (.pointer (some ⟨c, off + i.toNat * ty.sz, none⟩)) ?_ (by simp only [Rep]; exact ⟨c, L, A, h2, rfl⟩)
        simp [execOp, ho, hxv, hy, Instr.indexAt, run_underlying hu, asIntOf, h0, h1, run_sizeOf' hty, addr_add]
      · cases he
    · rename_i k2 g off _ hxe
      rw [hxe] at hx
      split at he
      · rename_i n e _ _ _ hta
        obtain ⟨_, hu, _⟩ := tyOf_spec hta
        split at he
        · rename_i ty hty
          split at he
          · rename_i hc
            cases he
            obtain ⟨h0, h1⟩ := hc
            simp only [Rep] at hx
            obtain ⟨c, L, A, h2, hxv⟩ := hx
            refine Ran.quiet sim.hp (.pointer (some ⟨c, off + i.toNat * ty.sz, none⟩)) ?_ (by simp only [Rep]; exact ⟨c, L, A, h2, rfl⟩)
            simp [execOp, ho, hxv, hy, Instr.indexAt, run_underlying hu, Instr.sureAddr, asIntOf, h0, h1, run_sizeOf' hty, addr_add]
          · cases he
        · cases he
      · cases he
    · rename_i xs _ hxe
      rw [hxe] at hx
      split at he
      · rename_i n e _ _ _ hta
        obtain ⟨_, hu, _⟩ := tyOf_spec hta
        split at he
        · rename_i ty hty
          split at he
          · rename_i hc
            cases he
            obtain ⟨h0, h1, h2⟩ := hc
            simp only [Rep] at hx
            obtain ⟨b, o1, hxv, h3, h4, h5⟩ := hx
            refine Ran.quiet sim.hp (.pointer (some ⟨b, o1 + i.toNat * ty.sz, none⟩)) ?_ ?_
            · simp [execOp, ho, hxv, hy, Instr.indexAt, run_underlying hu, Instr.sureAddr, asIntOf, h0, h1, run_sizeOf' hty, addr_add]
            · simp only [Rep]
              exact ⟨b, _, rfl, h3, h4, Row.drop h5 _⟩
          · cases he
        · cases he
      · cases he
    · cases he
  · cases he
theorem ran_index (sim : Sim F s μ a w) {o : Oper} {t : TypeId} {x y : Operand} (ho : o.op = .index t x y) (he : aeff P B o.op o.dst (ev s) h = some (v, ups)) : Ran P F s μ a w o v ups := by
  rw [ho] at he
  simp only [aeff, Option.map_eq_some_iff] at he
  obtain ⟨v', he, hv⟩ := he
  cases hv
  have hx := ev_rep sim x
  have hy := ev_rep sim y
  unfold aindex at he
  split at he
  · rename_i k i hye
    rw [hye] at hy
    have hy := rep_sc hy
    split at he
    · rename_i _ _ _ str hty hxe
      obtain ⟨_, hu, _⟩ := tyOf_spec hty
      rw [hxe] at hx
      have hx := rep_sc hx
      split at he
      · rename_i hc
        cases he
        refine Ran.quiet sim.hp _ ?_ (by simp [Rep]; rfl)
        have hlt : i.toNat < str.size := by omega
        simp [execOp, ho, hx, hy, Instr.index, run_underlying hu, asIntOf, hc.1, hlt]
        rfl
      · cases he
    · rename_i n e _ _ _ cs hty hxe
      obtain ⟨_, hu, _⟩ := tyOf_spec hty
      rw [hxe] at hx
      simp only [Rep] at hx
      obtain ⟨us, hxv, hr⟩ := hx
      split at he
      · rename_i ty hte
        split at he
        · rename_i hc
          obtain ⟨u, h4, h5⟩ := acut_part hte hr he
          exact Ran.quiet sim.hp u (by simp [execOp, ho, hxv, hy, Instr.index, run_underlying hu, asIntOf, hc.1, hc.2, run_sizeOf' hte, h4]) h5
        · cases he
      · cases he
    · cases he
  · cases he
end
end Go.Ab
end
section
namespace Go.Ab
open Go
section
variable {P : Program} {F : Nat → Prop} {s : S} {μ : Mu} {a : Act} {w : World} {B : Nat} {h : Nat → AV} {v : AV} {ups : List (Nat × AV)} {M : Nat → Prop}
theorem arow_ok (hp : Hp F s μ w) (hh : Sub h s) {x : AV} {u : Value} {xs : List AV} (hr : Rep w μ (Mof F s μ) x u) (he : arow h x = some xs) :
    ∃ ad n c, u = .slice ad n c ∧ alen x = some n ∧ (xs = [] ∨ ∃ b o, ad = some ⟨b, o, none⟩ ∧ ∀ (i : Nat) (y : AV), xs[i]? = some y → y.one = true ∧ ∃ z, w.cell? ⟨b, o + i, none⟩ = some z ∧ Rep w μ (Mof F s μ) y z) := by
  unfold arow at he
  split at he
  · rename_i n xs'
    cases he
    simp only [Rep] at hr
    obtain ⟨ad, c, rfl, _, h1⟩ := hr
    refine ⟨ad, n, c, rfl, rfl, h1.imp id ?_⟩
    rintro ⟨b, o, rfl, _, h2⟩
    refine ⟨b, o, rfl, fun i y hy => ?_⟩
    obtain ⟨h3, h4⟩ := Row.get h2 i y hy
    exact ⟨AV.one_of_fz h3, h4⟩
  · rename_i k g off n z
    split at he
    · rename_i g' st cs hb
      split at he
      · rename_i hc
        cases he
        obtain ⟨rfl, hst, hle⟩ := hc
        simp only [Rep] at hr
        obtain ⟨c, L, A, cap, h1, rfl, h2, h3, h4, h5⟩ := hr
        refine ⟨_, n, cap, rfl, rfl, .inr ⟨c, off, rfl, fun i y hy => ?_⟩⟩
        rw [List.getElem?_take] at hy
        split at hy
        · rw [List.getElem?_drop] at hy
          obtain ⟨c', A', arr, e, f, g1, g2, g3, g4, g5, g6⟩ := hp.row k g' st cs (hh _ _ _ _ hb) hst
          rw [h1] at g1
          cases g1
          obtain ⟨h6, z', h7, h8⟩ := g6 _ _ hy
          exact ⟨h6, z', by simp [World.cell?, g2, h7], h8⟩
        · cases hy
      · cases he
    · cases he
  · cases he
    have := rep_sc hr
    subst this
    exact ⟨_, _, _, rfl, rfl, .inl rfl⟩
  · cases he
theorem row_vals : ∀ {xs : List AV} {b o : Nat}, (∀ (i : Nat) (y : AV), xs[i]? = some y → y.one = true ∧ ∃ z, w.cell? ⟨b, o + i, none⟩ = some z ∧ Rep w μ M y z) →
    ∃ us : List Value, RepL w μ M xs us ∧ (∀ u ∈ us, oneV u = true) ∧ ∀ (i : Nat) (u : Value), us[i]? = some u → w.cell? ⟨b, o + i, none⟩ = some u
  | [], b, o, _ => ⟨[], by simp [RepL], by simp, by simp⟩
  | x :: xs, b, o, h => by
    obtain ⟨h1, u, h2, h3⟩ := h 0 x (by simp)
    obtain ⟨us, h4, h5, h6⟩ := row_vals (xs := xs) (b := b) (o := o + 1) (fun i y hy => by
      have := h (i + 1) y (by simpa using hy)
      rwa [show o + (i + 1) = o + 1 + i by omega] at this)
    refine ⟨u :: us, by simp only [RepL]; exact ⟨h3, h4⟩, ?_, fun i z hz => ?_⟩
    · intro z hz
      rcases List.mem_cons.1 hz with rfl | hz
      · exact Rep.one h3 h1
      · exact h5 z hz
    · cases i with
      | zero => simp at hz; subst hz; exact h2
      | succ i =>
        have := h6 i z (by simpa using hz)
        rwa [show o + 1 + i = o + (i + 1) by omega] at this
theorem abytes_ok : ∀ {xs : List AV} {us : List Value} {l : List UInt8}, RepL w μ M xs us → abytes xs = some l → ∃ ns : List Int, us = ns.map (Value.int .u8) ∧ l = ns.map fun n => UInt8.ofNat n.toNat
  | [], [], l, _, h => by simp [abytes] at h; subst h; exact ⟨[], rfl, rfl⟩
  | x :: xs, u :: us, l, hr, h => by
    unfold abytes at h
    split at h
    · rename_i heq; cases heq
    · rename_i n xs' heq
      cases heq
      split at h
      · rename_i l' h1
        cases h
        simp only [RepL] at hr
        obtain ⟨ns, h2, h3⟩ := abytes_ok hr.2 h1
        have := rep_sc hr.1
        subst this
        exact ⟨n :: ns, by simp [h2], by simp [h3]⟩
      · cases h
    · cases h
  | [], _ :: _, _, h, _ => by simp [RepL] at h
  | _ :: _, [], _, h, _ => by simp [RepL] at h
theorem push_all : ∀ (ns : List Int) (b : ByteArray), ns.foldl (fun r n => r.push (UInt8.ofNat n.toNat)) b = ⟨(b.data.toList ++ ns.map fun n => UInt8.ofNat n.toNat).toArray⟩
  | [], b => by simp
  | n :: ns, b => by
    rw [List.foldl_cons, push_all ns]
    simp [ByteArray.push]
theorem ran_convert (sim : Sim F s μ a w) (hh : Sub h s) {o : Oper} (hO : Own B o.dst h s) {src t : TypeId} {x : Operand} (ho : o.op = .convert src t x) (he : aeff P B o.op o.dst (ev s) h = some (v, ups)) : Ran P F s μ a w o v ups := by
  rw [ho] at he
  simp only [aeff] at he
  have hx := ev_rep sim x
  have hpure : ∀ u, ev s x = .sc u → (pureRun P (convert src t u)).map (fun v => ((.sc v, []) : Eff)) = some (v, ups) → Ran P F s μ a w o v ups := by
    intro u hxe h1
    rw [hxe] at hx
    have hx := rep_sc hx
    simp only [Option.map_eq_some_iff] at h1
    obtain ⟨r, h2, h3⟩ := h1
    cases h3
    exact Ran.quiet sim.hp r (by simp [execOp, ho, hx, pureRun_ok h2 w]) (by simp [Rep])
  unfold aconv at he
  split at he
  · rename_i k _ _ _ hty
    obtain ⟨i, h1, _⟩ := tyOf_spec hty
    split at he
    · rename_i k' n hxe
      rw [hxe] at hx
      have hx := rep_sc hx
      split at he
      · rename_i hs
        cases he
        obtain ⟨d, hd⟩ := Option.isSome_iff_exists.1 hs
        exact Ran.quiet sim.hp _ (by simp [execOp, ho, hx, convert, run_underlying h1, run_underlying hd, Conv.intToInt]; rfl) (by simp [Rep])
      · cases he
    · rename_i u _ hxe
      exact hpure u hxe he
    · cases he
  · rename_i _ _ _ hty
    obtain ⟨i, h1, _⟩ := tyOf_spec hty
    split at he
    · rename_i e _ _ _ hsl
      obtain ⟨hu, hte⟩ := aslice0_spec hsl
      obtain ⟨_, hue, _⟩ := tyOf_spec hte
      have hconv : ∀ a l c, (convert src t (.slice a l c)).run P w = (Conv.bytesToString (.slice a l c)).run P w := fun a l c => run_convert_bytes_string w src t e a l c hu hue h1
      have main : ∀ l, (arow h (ev s x)).bind abytes = some l → (∀ n c ad, a.eval x = .slice ad n c → ∀ xs, arow h (ev s x) = some xs → xs ≠ [] ∨ ad ≠ none → n = xs.length) → Ran P F s μ a w o (.sc (.string ⟨l.toArray⟩)) [] := by
        intro l hl hlen
        simp only [Option.bind_eq_some_iff] at hl
        obtain ⟨xs, h2, h3⟩ := hl
        obtain ⟨ad, n, c, h4, h5, h6⟩ := arow_ok sim.hp hh hx h2
        refine Ran.quiet sim.hp _ ?_ (by simp [Rep]; rfl)
        simp only [execOp, ho, h4, Sem.run_bind, hconv]
        rcases ad with _ | ad
        · rcases h6 with rfl | ⟨_, _, h6, _⟩
          · simp [abytes] at h3
            subst h3
            simp [Conv.bytesToString]
            rfl
          · cases h6
        · have hn := hlen n c _ h4 xs h2 (.inr (by simp))
          have hus : ∃ us : List Value, RepL w μ (Mof F s μ) xs us ∧ ∀ (i : Nat) (u : Value), us[i]? = some u → w.cell? (ad.add i) = some u := by
            rcases h6 with rfl | ⟨b, o1, h6, h7⟩
            · exact ⟨[], by simp [RepL], by simp⟩
            · obtain ⟨us, h8, _, h10⟩ := row_vals h7
              simp only [Option.some.injEq] at h6
              subst h6
              exact ⟨us, h8, fun i u hi => by rw [addr_add]; exact h10 i u hi⟩
          obtain ⟨us, h8, h9⟩ := hus
          obtain ⟨ns, rfl, rfl⟩ := abytes_ok h8 h3
          have hln := RepL.length h8
          have hcells := run_loadCells_list (P := P) w ad _ h9
          rw [← hln, ← hn] at hcells
          rw [run_bytesToString w ad n c ns hcells, push_all]
          simp [Result.andThen]
      split at he
      · rename_i l n xs hl hxe
        split at he
        · rename_i hn
          cases he
          refine main l hl fun n' c ad h2 xs' h3 _ => ?_
          rw [hxe] at h3 hx
          simp only [Rep] at hx
          obtain ⟨_, _, h4, _⟩ := hx
          rw [h4] at h2
          cases h2
          simp only [arow, Option.some.injEq] at h3
          rw [← h3]; exact hn
        · cases he
      · rename_i l k g off n hl hxe
        cases he
        refine main l hl fun n' c ad h2 xs' h3 _ => ?_
        rw [hxe] at h3 hx
        simp only [Rep] at hx
        obtain ⟨_, _, _, _, _, h4, _⟩ := hx
        rw [h4] at h2
        cases h2
        simp only [arow] at h3
        split at h3
        · split at h3
          · rename_i hc
            cases h3
            simp; omega
          · cases h3
        · cases h3
      · rename_i l u hl hxe
        cases he
        have hnil : l = [] := by
          rw [hxe] at hl
          simp only [Option.bind_eq_some_iff] at hl
          obtain ⟨xs, h2, h3⟩ := hl
          simp only [arow] at h2
          split at h2
          all_goals first | cases h2 | skip
          all_goals first | (rename_i heq; cases heq; done) | skip
          all_goals (simp [abytes] at h3; exact h3)
        have := main l hl fun n' c ad h2 xs' h3 h4 => by
          rw [hxe] at h3 hx
          have hx := rep_sc hx
          rw [hx] at h2
          subst h2
          simp only [arow] at h3
          split at h3
          · rename_i heq; cases heq
          · rename_i heq; cases heq
          · rename_i heq
            cases heq
            rcases h4 with h4 | h4
            · cases h3; exact absurd rfl h4
            · exact absurd rfl h4
          · cases h3
        rw [hnil] at this
        exact this
      · cases he
    · split at he
      · rename_i u hxe
        exact hpure u hxe he
      · cases he
  · rename_i e _ _ _ hty
    obtain ⟨_, h1, _⟩ := tyOf_spec hty
    split at he
    · rename_i _ _ _ _ _ _ str hte hts hxe
      obtain ⟨_, h2, _⟩ := tyOf_spec hte
      obtain ⟨_, h3, _⟩ := tyOf_spec hts
      rw [hxe] at hx
      have hx := rep_sc hx
      have hr := run_bytes_of_string w src t e str h3 h1 h2
      have hsz : (bytesRow str (grownCap w str.size 0 e)).size = str.size + (grownCap w str.size 0 e - str.size) := by simp [bytesRow]
      have hge : str.size ≤ grownCap w str.size 0 e := by simp [grownCap, Question.cut]
      refine ⟨.value _, _, _, by simp only [execOp, ho, hx, Sem.run_bind, hr]; rfl, .inl rfl, ?_⟩
      refine anew_out sim.hp hO he _ e ((bytesRow str (grownCap w str.size 0 e)).size, (bytesRow str (grownCap w str.size 0 e)).size + 1) (by rw [hsz]; simp) (fun o ho hh => by have := hh.1; omega) ?_ (by rfl) (by rfl) (by rfl) (by rfl) fun k g μ' M hm => hs_new hm hge (by simp) (by simpa using hge) (by rw [hsz]; omega)
      intro j q hq
      rw [List.getElem?_map] at hq
      cases hj : str.data.toList[j]? with
      | none => rw [hj] at hq; simp at hq
      | some b =>
        rw [hj] at hq
        simp at hq
        subst hq
        have hjl : j < str.data.size := by simpa using (List.getElem?_eq_some_iff.1 hj).1
        refine ⟨.int .u8 b.toNat, ?_, by simp [Rep]⟩
        simp only [bytesRow]
        rw [Array.getElem?_append_left (by simpa using hjl), Array.getElem?_map]
        simp at hj
        simp [hj]
    · cases he
  · split at he
    · rename_i u hxe
      exact hpure u hxe he
    · cases he
  · cases he
end
end Go.Ab
end
section
namespace Go.Ab
open Go
section
variable {P : Program} {F : Nat → Prop} {s : S} {μ : Mu} {a : Act} {w : World} {B : Nat} {h : Nat → AV} {v : AV} {ups : List (Nat × AV)} {M : Nat → Prop}
theorem run_builtin {o : Oper} {b : Builtin} {as : Array Operand} {ts : Array TypeId} (ho : o.op = .call ⟨.builtin b, as, ts⟩) {u : Value} {w' : World}
    (hr : ∃ cs, (builtin b ts o.type cs (as.map a.eval)).run P w = .ok (.value u) w') (hc : ∀ cs cs', (builtin b ts o.type cs (as.map a.eval)) = builtin b ts o.type cs' (as.map a.eval)) :
    (execOp a.eval o).run P w = .ok (.value u) w' := by
  obtain ⟨cs, hr⟩ := hr
  simp only [execOp, ho, resolve, Sem.run_bind, Sem.run_pure, Result.andThen, invoke]
  rw [hc _ cs]
  exact hr
theorem two {ts : Array TypeId} {x y : TypeId} (h : ts.toList = [x, y]) : ts = #[x, y] := by rw [← Array.toArray_toList (xs := ts), h]
theorem one' {ts : Array TypeId} {x : TypeId} (h : ts.toList = [x]) : ts = #[x] := by rw [← Array.toArray_toList (xs := ts), h]
theorem ops2 {as : Array Operand} {x y : AV} (h : as.toList.map (ev s) = [x, y]) : ∃ p q, as = #[p, q] ∧ ev s p = x ∧ ev s q = y := by
  have hl : as.toList.length = 2 := by have := congrArg List.length h; simpa using this
  obtain ⟨p, q, hpq⟩ : ∃ p q, as.toList = [p, q] := by
    match has : as.toList, hl with
    | [p, q], _ => exact ⟨p, q, rfl⟩
  rw [hpq] at h
  simp only [List.map_cons, List.map_nil, List.cons.injEq, and_true] at h
  exact ⟨p, q, by rw [← Array.toArray_toList (xs := as), hpq], h.1, h.2⟩
theorem ops1 {as : Array Operand} {x : AV} (h : as.toList.map (ev s) = [x]) : ∃ p, as = #[p] ∧ ev s p = x := by
  have hl : as.toList.length = 1 := by have := congrArg List.length h; simpa using this
  obtain ⟨p, hpq⟩ := List.length_eq_one_iff.1 hl
  rw [hpq] at h
  simp only [List.map_cons, List.map_nil, List.cons.injEq, and_true] at h
  exact ⟨p, by rw [← Array.toArray_toList (xs := as), hpq], h⟩
theorem append_in (hp : Hp F s μ w) (hh : Sub h s) {ty : Ty} {x : AV} {xv : Value} {m : Nat} {news : List AV} (hx : Rep w μ (Mof F s μ) x xv) (hm : alen x = some m) (hn : arow h x = some news)
    (hl : news.length = m * ty.sz) : ∃ ad c us, xv = .slice ad m c ∧ us.length = m * ty.sz ∧ RepL w μ (Mof F s μ) news us ∧ (∀ u ∈ us, oneV u = true) ∧ (ad = none → us = []) ∧ ∀ b, ad = some b → ∀ (i : Nat) (u : Value), us[i]? = some u → w.cell? (b.add i) = some u := by
  obtain ⟨ad, n, c, h1, h2, h3⟩ := arow_ok hp hh hx hn
  rw [hm] at h2
  cases h2
  rcases h3 with rfl | ⟨b, o1, rfl, h3⟩
  · exact ⟨ad, c, [], h1, by simpa using hl, by simp [RepL], by simp, fun _ => rfl, by simp⟩
  · obtain ⟨us, h4, h5, h6⟩ := row_vals h3
    refine ⟨_, c, us, h1, by rw [← RepL.length h4, hl], h4, h5, by simp, fun b' hb i u hi => ?_⟩
    cases hb
    rw [addr_add]
    exact h6 i u hi
theorem grown_ge (n old : Nat) (e : TypeId) : n ≤ grownCap w n old e := by simp [grownCap, Question.cut]
theorem zc_size (z : Array Value) (n : Nat) : (Builtin.zeroCells z n).size = n * z.size := by simp [Builtin.zeroCells]
theorem append_ran (sim : Sim F s μ a w) (hh : Sub h s) {dst : Option Tmp} (hO : Own B dst h s) {t : TypeId} {p q : AV} {pv qv : Value} {ot : TypeId} (hpv : Rep w μ (Mof F s μ) p pv) (hqv : Rep w μ (Mof F s μ) q qv) (he : aappend P B dst h t p q = some (v, ups)) :
    ∃ u w', (Builtin.append_ #[t, t] ot #[pv, qv]).run P w = .ok u w' ∧ Out P F s μ w ups v u w' := by
  unfold aappend at he
  split at he
  · rename_i e d sz z by_ m news hsl hm hn
    obtain ⟨hu, hty⟩ := aslice0_spec hsl
    obtain ⟨i, h1, h2, h3, h4, h5⟩ := tyOf_spec hty
    simp only [Option.map_eq_some_iff] at h4
    obtain ⟨zv, h6, h7⟩ := h4
    subst h7
    simp only at h3 h5
    split at he
    · rename_i hc
      obtain ⟨hz, hl, hby, hsz1⟩ := hc
      have hz' : zv.cells.size = sz := by simpa using hz
      obtain ⟨ad, c, us, rfl, hus, hr, hone, hnil, hcell⟩ := append_in (ty := ⟨d, sz, some zv.cells.toList, by_⟩) sim.hp hh hqv hm hn hl
      replace hus : us.length = m * sz := hus
      split at he
      · rename_i hm0
        subst hm0
        have hus0 : us = [] := List.eq_nil_of_length_eq_zero (by simpa using hus)
        have hfc : (Builtin.firstCells sz 0 (.slice ad 0 c)).run P w = .ok #[] w := by
          cases ad <;> simp [Builtin.firstCells, loadCells, loadCellsFrom]
        split at he
        · rename_i k g off n z0
          cases he
          simp only [Rep] at hpv
          obtain ⟨c', L, A, cap, g1, rfl, g2, g3⟩ := hpv
          refine ⟨_, w, ?_, Out.pure sim.hp (by simp only [Rep]; exact ⟨c', L, A, cap, g1, rfl, g2, g3⟩)⟩
          simp [Builtin.append_, run_underlying hu, run_sizeOf' hty, Builtin.lenOf, g2, hfc, storeCells]
        · cases he
          have := rep_sc hpv
          subst this
          refine ⟨.slice none 0 0, w, ?_, Out.pure sim.hp (by simp [Rep])⟩
          simp [Builtin.append_, run_underlying hu, run_sizeOf' hty, Builtin.lenOf, hfc]
        · cases he
      · rename_i hm0
        obtain ⟨b, rfl⟩ : ∃ b, ad = some b := by
          cases ad with
          | some b => exact ⟨b, rfl⟩
          | none =>
            have h8 := hnil rfl
            subst h8
            have h9 : m * sz = 0 := by simpa using hus.symm
            rcases Nat.mul_eq_zero.1 h9 with h | h <;> omega
        have hcell' := hcell b rfl
        split at he
        · split at he
          · rename_i hb
            have := rep_sc hpv
            subst this
            have hrun := run_append_nil (P := P) w t ot e i zv hu h2 h6 b m c us (by rw [h3]; exact hus) hcell' (by omega) (by
              have := Nat.mul_le_mul_left m hby; omega) (by rw [h5]; omega)
            refine ⟨_, _, hrun, ?_⟩
            have hge := grown_ge (w := w) m 0 e
            have hsz : (us.toArray ++ Builtin.zeroCells zv.cells (grownCap w m 0 e - m)).size = grownCap w m 0 e * sz := by
              rw [Array.size_append, zc_size, hz']
              simp only [List.size_toArray, hus, ← Nat.add_mul]
              congr 1; omega
            refine anew_out sim.hp hO he _ e (0, 0) (by rw [hsz, hl]; exact Nat.mul_le_mul_right _ hge) nofreeze ?_ (by rfl) (by rfl) (by rfl) (by rfl) fun k g μ' M hmm => hs_new hmm hge (by omega) (by rw [hl]; exact Nat.mul_le_mul_right _ hge) (by omega)
            intro j x hx
            obtain ⟨u, h8, h9⟩ := RepL.get hr j x hx
            refine ⟨u, ?_, h9⟩
            rw [Array.getElem?_append_left (by simpa using (List.getElem?_eq_some_iff.1 h8).1)]
            simpa using h8
          · cases he
        · rename_i k g n z0
          split at he
          · rename_i g' cs hb
            split at he
            · rename_i hc
              obtain ⟨rfl, rfl, hnl, hbytes, hall⟩ := hc
              cases he
              have hs := hh _ _ _ _ hb
              have hpv0 := hpv
              simp only [Rep] at hpv
              obtain ⟨c', L, A, cap, g1, rfl, g2, g3, g4, g5⟩ := hpv
              obtain ⟨c2, A2, arr, el, f, k1, k2, k3, k4, k5, k6⟩ := sim.hp.row k g' 2 cs hs (by decide)
              rw [g1] at k1
              cases k1
              simp only [Nat.zero_add] at g3 g4 g5
              have hcap : cap * z0 ≤ arr.size := by omega
              have hL : cs.length = n * z0 := hnl.symm
              have hlenNew : (cs ++ news).length = (n + m) * z0 := by rw [List.length_append, hL, hl, Nat.add_mul]
              by_cases hroom : n + m ≤ cap
              ·
                have hroom' : (n + m) * z0 ≤ cap * z0 := Nat.mul_le_mul_right _ hroom
                have hin : ∀ j, j < us.length → n * z0 + j < arr.size := by intro j hj; rw [hus] at hj; rw [Nat.add_mul] at hroom'; omega
                have hf := run_firstCells_some (P := P) w z0 m b m c us hus hcell'
                have hst := run_storeCells_cells (P := P) c' (n * z0) us 0 w (fun j hj => by simp only [World.cell?, k2]; simp [hin j hj])
                  (fun j hj => by
                    have := k5 (n * z0 + j) (by have := hin j hj; omega)
                    simp only [World.frozen?, k2, Nat.add_zero, Bool.and_eq_false_iff, decide_eq_false_iff_not]
                    omega) (fun u hu => one_oneCell (hone u hu))
                simp only [Nat.add_zero] at hst
                refine ⟨.slice (some ⟨c', 0, none⟩) (n + m) cap, w.setCells c' (n * z0) us, ?_, ?_⟩
                · simp [Builtin.append_, run_underlying hu, run_sizeOf' hty, Builtin.lenOf, hroom, hf, addr_add, hst]
                · obtain ⟨arr', j1, j2, j3, j4, j5, j6, j7, j8⟩ := setCells_heap c' el f us (n * z0) w arr k2
                  let μ' : Mu := fun k1 g1 => if k1 = k ∧ g1 = g' + 1 then some (c', (cs ++ news).length, A) else μ k1 g1
                  have hnew : μ' k (g' + 1) = some (c', (cs ++ news).length, A) := by simp [μ']
                  obtain ⟨q1, q2⟩ := sim.hp.upd (μ' := μ') (w' := w.setCells c' (n * z0) us) k g' 2 cs hs (g' + 1) 2 (cs ++ news) c' A (by omega)
                    (fun k1 g1 hne => by simp only [μ']; rw [if_neg hne]) hnew (fun e => by omega) (.inr ⟨_, A, by decide, g1, fun _ => rfl⟩) (by rw [j5]; exact (sim.hp.old _ _ _ _ _ g1).1) j6 j7 j8 (by omega)
                    (fun b' hb' hne => j4 b' fun e => hne ⟨rfl, cs.length, A, by rw [e]; exact g1⟩)
                    (fun up _ => ⟨arr', el, f, j1, by omega, by rw [hlenNew]; omega, k5, fun i x hx => by
                      rw [j3]
                      rw [List.getElem?_append] at hx
                      split at hx
                      · rename_i hi
                        rw [if_neg (by omega)]
                        obtain ⟨r1, u, r2, r3⟩ := k6 i x hx
                        exact ⟨r1, u, r2, Rep.mono up _ _ r3⟩
                      · rename_i hi
                        have hil := (List.getElem?_eq_some_iff.1 hx).1
                        have hi2 := hin (i - cs.length) (by rw [hus, ← hl]; exact hil)
                        rw [if_pos (by rw [hus, ← hl]; omega)]
                        rw [hL] at hx
                        obtain ⟨u, r2, r3⟩ := RepL.get hr _ x hx
                        exact ⟨by simp only [List.all_eq_true] at hall; exact hall x (List.mem_of_getElem? hx), u, r2, Rep.mono up _ _ r3⟩⟩)
                  exact ⟨μ', by simp only [Rep]; exact ⟨c', _, A, cap, hnew, rfl, hroom, by omega, by omega, by omega⟩, q1, q2⟩
              ·
                have hold : ∃ os : List Value, os.length = n * i.size ∧ RepL w μ (Mof F s μ) cs os ∧ ∀ (j : Nat) (u : Value), os[j]? = some u → w.cell? ((⟨c', 0, none⟩ : Addr).add j) = some u := by
                  obtain ⟨os, r1, _, r3⟩ := row_vals (xs := cs) (b := c') (o := 0) (fun j y hy => by
                    obtain ⟨r1, u, r2, r3⟩ := k6 j y hy
                    exact ⟨r1, u, by simp [World.cell?, k2, r2], r3⟩)
                  exact ⟨os, by rw [← RepL.length r1, hL, h3], r1, fun j u hj => by rw [addr_add]; exact r3 j u hj⟩
                obtain ⟨os, o1, o2, o3⟩ := hold
                have hrun := run_append_grow (P := P) w t ot e i zv hu h2 h6 ⟨c', 0, none⟩ n cap os o1 o3 b m c us (by rw [h3]; exact hus) hcell' (by omega)
                  (by have := Nat.mul_le_mul_left (n + m) hby; omega) (growslice_fits (by omega) (by rw [h5]; exact hbytes))
                refine ⟨_, _, hrun, ?_⟩
                have hge := grown_ge (w := w) (n + m) cap e
                let arr' : Array Value := os.toArray ++ us.toArray ++ Builtin.zeroCells zv.cells (grownCap w (n + m) cap e - (n + m))
                have hsz : arr'.size = grownCap w (n + m) cap e * z0 := by
                  simp only [arr', Array.size_append, zc_size, hz', List.size_toArray, o1, hus, h3, ← Nat.add_mul]
                  congr 1; omega
                have hge' : (n + m) * z0 ≤ grownCap w (n + m) cap e * z0 := Nat.mul_le_mul_right _ hge
                let μ' : Mu := fun k1 g1 => if k1 = k ∧ g1 = g' + 1 then some (w.heap.size, (cs ++ news).length, arr'.size) else μ k1 g1
                have hnew : μ' k (g' + 1) = some (w.heap.size, (cs ++ news).length, arr'.size) := by simp [μ']
                have hhp : (w.drew.alloc (.cells arr' e)).heap = w.heap.push (.cells arr' e) := rfl
                obtain ⟨q1, q2⟩ := sim.hp.upd (μ' := μ') (w' := w.drew.alloc (.cells arr' e)) k g' 2 cs hs (g' + 1) 2 (cs ++ news) w.heap.size arr'.size (by omega)
                  (fun k1 g1 hne => by simp only [μ']; rw [if_neg hne]) hnew (fun e => by omega) (.inl (Nat.le_refl _)) (by rw [hhp]; simp) rfl rfl rfl (by rw [hhp]; simp)
                  (fun b' hb' hne => by rw [hhp, Array.getElem?_push, if_neg (by omega)])
                  (fun up _ => ⟨arr', e, (0, 0), by rw [hhp]; simp, rfl, by omega, nofreeze, fun j x hx => by
                    rw [List.getElem?_append] at hx
                    split at hx
                    · rename_i hj
                      obtain ⟨r1, _⟩ := k6 j x hx
                      obtain ⟨u, r2, r3⟩ := RepL.get o2 j x hx
                      refine ⟨r1, u, ?_, Rep.mono up _ _ r3⟩
                      simp only [arr']
                      rw [Array.append_assoc, Array.getElem?_append_left (by simpa using (List.getElem?_eq_some_iff.1 r2).1)]
                      simpa using r2
                    · rename_i hj
                      obtain ⟨u, r2, r3⟩ := RepL.get hr _ x hx
                      refine ⟨by simp only [List.all_eq_true] at hall; exact hall x (List.mem_of_getElem? hx), u, ?_, Rep.mono up _ _ r3⟩
                      have hjl := (List.getElem?_eq_some_iff.1 r2).1
                      have hol : os.length = cs.length := (RepL.length o2).symm
                      simp only [arr']
                      rw [Array.append_assoc, Array.getElem?_append_right (by simp; omega), Array.getElem?_append_left (by simp; omega)]
                      simp only [List.size_toArray, hol]
                      simpa using r2⟩)
                exact ⟨μ', by simp only [Rep]; exact ⟨_, _, _, _, hnew, rfl, hge, by omega, by omega, by omega⟩, q1, q2⟩
            · cases he
          · cases he
        · cases he
    · cases he
  · cases he
end
end Go.Ab
end
section
namespace Go.Ab
open Go
section
variable {P : Program} {F : Nat → Prop} {s : S} {μ : Mu} {a : Act} {w : World} {B : Nat} {h : Nat → AV} {v : AV} {ups : List (Nat × AV)} {M : Nat → Prop}
theorem setCells_nil (w : World) (c o : Nat) : w.setCells c o [] = w := rfl
theorem RepL.take : ∀ {xs : List AV} {vs : List Value}, RepL w μ M xs vs → ∀ n, RepL w μ M (xs.take n) (vs.take n) := by
  intro xs vs h n
  have hl := RepL.length h
  refine RepL.of_get (by simp [hl]) fun i x v hx hv => ?_
  rw [List.getElem?_take] at hx hv
  split at hx
  · rename_i hi
    rw [if_pos hi] at hv
    exact RepL.getR h i x v hx hv
  · cases hx
theorem copy_ran (sim : Sim F s μ a w) (hh : Sub h s) {t : TypeId} {p q : AV} {pv qv : Value} {ot : TypeId} (hpv : Rep w μ (Mof F s μ) p pv) (hqv : Rep w μ (Mof F s μ) q qv) (he : acopy P h t p q = some (v, ups)) :
    ∃ u w', (Builtin.copy_ #[t, t] ot #[pv, qv]).run P w = .ok u w' ∧ Out P F s μ w ups v u w' := by
  unfold acopy at he
  split at he
  · rename_i e ty m news k g off n z hsl hm hn
    obtain ⟨hu, hty⟩ := aslice0_spec hsl
    split at he
    · rename_i g' cs hb
      split at he
      · rename_i hc
        obtain ⟨rfl, rfl, hl, hoff, hall⟩ := hc
        cases he
        obtain ⟨ad, c, us, rfl, hus, hr, hone, hnil, hcell⟩ := append_in sim.hp hh hqv hm hn hl
        simp only [Rep] at hpv
        obtain ⟨c', L, A, cap, g1, rfl, g2, g3, g4, g5⟩ := hpv
        have hmin : min m n * ty.sz ≤ m * ty.sz := Nat.mul_le_mul_right _ (Nat.min_le_left _ _)
        have hmin2 : min m n * ty.sz ≤ n * ty.sz := Nat.mul_le_mul_right _ (Nat.min_le_right _ _)
        have hr' := RepL.take hr (min m n * ty.sz)
        have hlen : (news.take (min m n * ty.sz)).length = min m n * ty.sz := by rw [List.length_take, hl]; omega
        have hlenU : (us.take (min m n * ty.sz)).length = min m n * ty.sz := by rw [List.length_take, hus]; omega
        obtain ⟨c2, L2, A2, k1, k2, k3, k4, k5⟩ := store_out (P := P) sim.hp (hh _ _ _ _ hb) off _ _ (by rw [hlen]; omega) (fun x hx => by simp only [List.all_eq_true] at hall; exact hall x (List.mem_of_mem_take hx)) hr'
        rw [g1] at k1
        cases k1
        refine ⟨_, _, ?_, k5 _ _ fun w' => by simp only [Rep]; rfl⟩
        have hst := run_storeCells_cells (P := P) c' off (us.take (min m n * ty.sz)) 0 w (fun j hj => by simpa using k2 j hj) (fun j hj => by simpa using k3 j hj) (fun u hu => one_oneCell (k4 u hu))
        simp only [Nat.add_zero] at hst
        have hfc : (Builtin.firstCells ty.sz (min m n) (.slice ad m c)).run P w = .ok (us.take (min m n * ty.sz)).toArray w := by
          cases ad with
          | none =>
            have := hnil rfl
            subst this
            simp [Builtin.firstCells]
          | some b =>
            refine run_firstCells_some (P := P) w ty.sz (min m n) b m c _ hlenU fun j u hj => hcell b rfl j u ?_
            rw [List.getElem?_take] at hj
            split at hj
            · exact hj
            · cases hj
        have e0 : Nat.min m n = min m n := rfl
        simp [Builtin.copy_, run_underlying hu, run_sizeOf' hty, Builtin.lenOf, e0, hfc, hst, goInt]
      · cases he
    · cases he
  · cases he
theorem ran_builtin (sim : Sim F s μ a w) (hh : Sub h s) {o : Oper} (hO : Own B o.dst h s) {b : Builtin} {as : Array Operand} {ts : Array TypeId} (ho : o.op = .call ⟨.builtin b, as, ts⟩) (he : aeff P B o.op o.dst (ev s) h = some (v, ups)) : Ran P F s μ a w o v ups := by
  rw [ho] at he
  simp only [aeff] at he
  unfold abuiltin at he
  split at he
  · rename_i t x hts has
    obtain ⟨p, rfl, rfl⟩ := ops1 has
    have := one' hts
    subst this
    have hx := ev_rep sim p
    have fin : ∀ n : Nat, (∃ t', t' = o.type ∧ (Builtin.len_ #[t] t' #[a.eval p]).run P w = .ok (goInt n) w) → Ran P F s μ a w o (.sc (.int .i64 n)) [] := by
      rintro n ⟨t', rfl, hr⟩
      refine Ran.quiet sim.hp (.int .i64 n) ?_ (by simp [Rep])
      exact run_builtin ho ⟨#[], by simp [builtin, hr, goInt]⟩ fun _ _ => rfl
    split at he
    · rename_i str hty hxe
      cases he
      obtain ⟨_, h1, _⟩ := tyOf_spec hty
      rw [hxe] at hx
      have hx := rep_sc hx
      exact fin _ ⟨_, rfl, by simp [Builtin.len_, run_underlying h1, hx]⟩
    · rename_i n xs hty hxe
      cases he
      obtain ⟨_, h1, _⟩ := tyOf_spec hty
      rw [hxe] at hx
      simp only [Rep] at hx
      obtain ⟨_, _, hx, _⟩ := hx
      exact fin _ ⟨_, rfl, by simp [Builtin.len_, run_underlying h1, hx]⟩
    · rename_i n _ hty hxe
      cases he
      obtain ⟨_, h1, _⟩ := tyOf_spec hty
      rw [hxe] at hx
      simp only [Rep] at hx
      obtain ⟨_, _, _, _, _, hx, _⟩ := hx
      exact fin _ ⟨_, rfl, by simp [Builtin.len_, run_underlying h1, hx]⟩
    · rename_i n _ hty hxe
      cases he
      obtain ⟨_, h1, _⟩ := tyOf_spec hty
      rw [hxe] at hx
      have hx := rep_sc hx
      exact fin _ ⟨_, rfl, by simp [Builtin.len_, run_underlying h1, hx]⟩
    · cases he
  · rename_i t t' x y hts has
    obtain ⟨p, q, rfl, rfl, rfl⟩ := ops2 has
    have := two hts
    subst this
    split at he
    · rename_i ht
      subst ht
      obtain ⟨u, w', h1, h2⟩ := append_ran (ot := o.type) sim hh hO (ev_rep sim p) (ev_rep sim q) he
      exact ⟨_, u, w', run_builtin ho ⟨#[], by simp [builtin, h1]⟩ fun _ _ => rfl, .inl rfl, h2⟩
    · cases he
  · rename_i t t' x y hts has
    obtain ⟨p, q, rfl, rfl, rfl⟩ := ops2 has
    have := two hts
    subst this
    split at he
    · rename_i ht
      subst ht
      obtain ⟨u, w', h1, h2⟩ := copy_ran (ot := o.type) sim hh (ev_rep sim p) (ev_rep sim q) he
      exact ⟨_, u, w', run_builtin ho ⟨#[], by simp [builtin, h1]⟩ fun _ _ => rfl, .inl rfl, h2⟩
    · cases he
  · rename_i t1 t2 k m k' n hts has
    obtain ⟨p, q, rfl, hp, hq⟩ := ops2 has
    split at he
    · rename_i hk
      subst hk
      cases he
      have hx := ev_rep sim p
      have hy := ev_rep sim q
      rw [hp] at hx
      rw [hq] at hy
      have hx := rep_sc hx
      have hy := rep_sc hy
      refine Ran.quiet sim.hp (.int k (if m < n then n else m)) ?_ (by simp [Rep])
      exact run_builtin ho ⟨#[], by simp [builtin, Builtin.max_, Builtin.max2, hx, hy]⟩ fun _ _ => rfl
    · cases he
  · rename_i t1 t2 k m k' n hts has
    obtain ⟨p, q, rfl, hp, hq⟩ := ops2 has
    split at he
    · rename_i hk
      subst hk
      cases he
      have hx := ev_rep sim p
      have hy := ev_rep sim q
      rw [hp] at hx
      rw [hq] at hy
      have hx := rep_sc hx
      have hy := rep_sc hy
      refine Ran.quiet sim.hp (.int k (if n < m then n else m)) ?_ (by simp [Rep])
      exact run_builtin ho ⟨#[], by simp [builtin, Builtin.min_, Builtin.min2, hx, hy]⟩ fun _ _ => rfl
    · cases he
  · cases he
theorem aeff_ran (sim : Sim F s μ a w) (hh : Sub h s) {o : Oper} (hO : Own B o.dst h s) (he : aeff P B o.op o.dst (ev s) h = some (v, ups)) : Ran P F s μ a w o v ups := by
  have he0 := he
  unfold aeff at he
  split at he
  · rename_i x ho; cases he; exact ran_move sim (.inl ho)
  · rename_i x ho; cases he; exact ran_move sim (.inr ho)
  · rename_i c x y ho
    split at he
    · rename_i t hc; cases he; exact ran_pick sim ho hc
    · cases he
  · rename_i ho; exact ran_alloc sim hO ho he0
  · rename_i ho; exact ran_box sim hO ho he0
  · rename_i ho; exact ran_build sim ho he0
  · rename_i ho; exact ran_buildSlice sim hO ho he0
  · rename_i ho; exact ran_load sim hh ho he0
  · rename_i ho; exact ran_store sim hh ho he0
  · rename_i ho; exact ran_binOp sim ho he0
  · rename_i ho; exact ran_unOp sim ho he0
  · rename_i ho; exact ran_convert sim hh hO ho he0
  · rename_i ho; exact ran_makeSlice sim hO ho he0
  · rename_i ho; exact ran_slice sim hh ho he0
  · rename_i ho; exact ran_fieldAddr sim ho he0
  · rename_i ho; exact ran_field sim ho he0
  · rename_i ho; exact ran_indexAddr sim ho he0
  · rename_i ho; exact ran_index sim ho he0
  · rename_i ho; exact ran_extract sim ho he0
  · rename_i ho; exact ran_builtin sim hh hO ho he0
  · cases he
end
end Go.Ab
end
section
namespace Go.Ab
open Go
def fzn : AV → AV
  | .blk g _ cs => .blk g 1 cs
  | x => x
mutual
def frz (h : Nat → AV) : AV → Option (AV × List Nat)
  | .sc v => some (.sc v, [])
  | .vs n xs => some (.vs n xs, [])
  | .hs k g off n z => match h k with
    | .blk g' st cs => if g' = g ∧ st ≠ 0 ∧ off + n * z ≤ cs.length ∧ ((cs.drop off).take (n * z)).all AV.fz = true then some (.vs n ((cs.drop off).take (n * z)), [k]) else none
    | _ => none
  | .agg cs => match frzL h cs with
    | some (l, ks) => some (.agg l, ks)
    | none => none
  | .tup cs => match frzL h cs with
    | some (l, ks) => some (.tup l, ks)
    | none => none
  | _ => none
def frzL (h : Nat → AV) : List AV → Option (List AV × List Nat)
  | [] => some ([], [])
  | x :: xs => match frz h x, frzL h xs with
    | some (y, ks), some (ys, ls) => some (y :: ys, ks ++ ls)
    | _, _ => none
end
def M0 : Nat → Prop := fun _ => False
def μ0 : Mu := fun _ _ => none
structure Spec (P : Program) (f : FuncId) (as : List AV) (r : AV) : Prop where
  enter : ∀ args w, (callFunc f args).run P w = .ok (.enter f args) w
  calls : ∀ (M : Nat → Prop) (w : World) (vs : List Value), (∀ c, M c → c < w.heap.size) → TabOK w M → RepL w μ0 M as vs →
    Calls P f vs.toArray w (fun e w' => match e with | .returned v => Rep w' μ0 M r v ∧ Ext M0 w w' | .outgrown => False | .panicked _ => False)
  pure : r.pure = true
def Wk (x y : AV) : Prop := ∀ w μ M v, Rep w μ M x v → Rep w μ M y v
def WkL (xs ys : List AV) : Prop := ∀ w μ M vs, RepL w μ M xs vs → RepL w μ M ys vs
theorem Wk.refl (x : AV) : Wk x x := fun _ _ _ _ h => h
theorem WkL.refl (x : List AV) : WkL x x := fun _ _ _ _ h => h
theorem WkL.cons {x y : AV} {xs ys : List AV} (h : Wk x y) (k : WkL xs ys) : WkL (x :: xs) (y :: ys) := by
  intro w μ M vs hr
  cases vs with
  | nil => simp [RepL] at hr
  | cons v vs => simp only [RepL] at hr ⊢; exact ⟨h _ _ _ _ hr.1, k _ _ _ _ hr.2⟩
theorem Wk.nil {n : Nat} : Wk (.sc (.slice none 0 n)) (.vs 0 []) := by
  intro w μ M v h
  simp only [Rep] at h ⊢
  exact ⟨none, n, h, by omega, .inl trivial⟩
theorem Wk.agg {xs ys : List AV} (h : WkL xs ys) : Wk (.agg xs) (.agg ys) := by
  intro w μ M v hr
  simp only [Rep] at hr ⊢
  obtain ⟨vs, h1, h2⟩ := hr
  exact ⟨vs, h1, h _ _ _ _ h2⟩
theorem Wk.tup {xs ys : List AV} (h : WkL xs ys) : Wk (.tup xs) (.tup ys) := by
  intro w μ M v hr
  simp only [Rep] at hr ⊢
  obtain ⟨vs, h1, h2⟩ := hr
  exact ⟨vs, h1, h _ _ _ _ h2⟩
section
variable {P : Program} {F : Nat → Prop} {s : S} {μ : Mu} {a : Act} {w : World} {B : Nat} {h : Nat → AV} {M : Nat → Prop}
mutual
theorem frz_sites : ∀ (x y : AV) (ks : List Nat), frz h x = some (y, ks) → y.pure = true ∧ ∀ k ∈ ks, ∃ g st cs, h k = .blk g st cs ∧ st ≠ 0
  | .sc v, y, ks, he => by simp only [frz, Option.some.injEq, Prod.mk.injEq] at he; obtain ⟨rfl, rfl⟩ := he; simp [AV.pure]
  | .vs n xs, y, ks, he => by simp only [frz, Option.some.injEq, Prod.mk.injEq] at he; obtain ⟨rfl, rfl⟩ := he; simp [AV.pure]
  | .hs k g off n z, y, ks, he => by
    simp only [frz] at he
    split at he
    · rename_i g' st cs hb
      split at he
      · rename_i hc
        simp only [Option.some.injEq, Prod.mk.injEq] at he
        obtain ⟨rfl, rfl⟩ := he
        exact ⟨rfl, fun k' hk' => by simp at hk'; subst hk'; exact ⟨g', st, cs, hb, hc.2.1⟩⟩
      · cases he
    · cases he
  | .hp k g off, y, ks, he => by simp [frz] at he
  | .vp xs, y, ks, he => by simp [frz] at he
  | .agg cs, y, ks, he => by
    simp only [frz] at he
    split at he
    · rename_i l ks' h1
      simp only [Option.some.injEq, Prod.mk.injEq] at he
      obtain ⟨rfl, rfl⟩ := he
      have := frzL_sites cs _ _ h1
      exact ⟨by simpa [AV.pure] using this.1, this.2⟩
    · cases he
  | .tup cs, y, ks, he => by
    simp only [frz] at he
    split at he
    · rename_i l ks' h1
      simp only [Option.some.injEq, Prod.mk.injEq] at he
      obtain ⟨rfl, rfl⟩ := he
      have := frzL_sites cs _ _ h1
      exact ⟨by simpa [AV.pure] using this.1, this.2⟩
    · cases he
  | .blk g st cs, y, ks, he => by simp [frz] at he
theorem frzL_sites : ∀ (xs ys : List AV) (ks : List Nat), frzL h xs = some (ys, ks) → AV.pureL ys = true ∧ ∀ k ∈ ks, ∃ g st cs, h k = .blk g st cs ∧ st ≠ 0
  | [], ys, ks, he => by simp only [frzL, Option.some.injEq, Prod.mk.injEq] at he; obtain ⟨rfl, rfl⟩ := he; simp [AV.pureL]
  | x :: xs, ys, ks, he => by
    simp only [frzL] at he
    split at he
    · rename_i y k1 ys' k2 h1 h2
      simp only [Option.some.injEq, Prod.mk.injEq] at he
      obtain ⟨rfl, rfl⟩ := he
      have a1 := frz_sites x _ _ h1
      have a2 := frzL_sites xs _ _ h2
      refine ⟨by simp [AV.pureL, a1.1, a2.1], fun k hk => ?_⟩
      rcases List.mem_append.1 hk with hk | hk
      · exact a1.2 k hk
      · exact a2.2 k hk
    · cases he
end
theorem freeze_all : ∀ (ks : List Nat) (s : S), Hp F s μ w → (∀ k ∈ ks, ∃ g st cs, s (.h k) = .blk g st cs ∧ st ≠ 0) →
    Hp F (appH s (ks.map fun k => (k, fzn (s (.h k))))) μ w ∧ Step s μ w (appH s (ks.map fun k => (k, fzn (s (.h k))))) μ w ∧
    ∀ k, appH s (ks.map fun k => (k, fzn (s (.h k)))) (.h k) = if k ∈ ks then fzn (s (.h k)) else s (.h k)
  | [], s, hp, _ => ⟨hp, Step.refl _ _ _, fun k => by simp [appH_nil]⟩
  | k :: ks, s, hp, hk => by
    obtain ⟨g, st, cs, h1, h2⟩ := hk k (by simp)
    obtain ⟨c, A, arr, e, f, r1, r2, r3, r4, r5, r6⟩ := hp.row k g st cs h1 h2
    have hf : fzn (s (.h k)) = .blk g 1 cs := by rw [h1]; rfl
    obtain ⟨q1, q2⟩ := hp.upd (μ' := μ) (w' := w) k g st cs h1 g 1 cs c A (Nat.le_refl _) (fun _ _ _ => rfl) r1 (fun _ => rfl) (.inr ⟨_, A, h2, r1, fun h => by cases h⟩) (hp.old _ _ _ _ _ r1).1 rfl rfl rfl (Nat.le_refl _)
      (fun _ _ _ => rfl) (fun up _ => ⟨arr, e, f, r2, r3, r4, r5, fun i x hx => by
        obtain ⟨j1, u, j2, j3⟩ := r6 i x hx
        exact ⟨j1, u, j2, Rep.mono up _ _ j3⟩⟩)
    have hs1 : ∀ k', upd s (.h k) (.blk g 1 cs) (.h k') = if k' = k then .blk g 1 cs else s (.h k') := fun k' => by
      by_cases e : k' = k
      · subst e; simp [upd]
      · simp [upd, e]
    have hfz : ∀ k', fzn (upd s (.h k) (.blk g 1 cs) (.h k')) = fzn (s (.h k')) := fun k' => by
      rw [hs1]
      split
      · rename_i e; subst e; rw [hf]; rfl
      · rfl
    obtain ⟨p1, p2, p3⟩ := freeze_all ks (upd s (.h k) (.blk g 1 cs)) q1 (fun k' hk' => by
      rw [hs1]
      split
      · exact ⟨g, 1, cs, rfl, by decide⟩
      · exact hk k' (by simp [hk']))
    have e1 : appH s ((k :: ks).map fun k => (k, fzn (s (.h k)))) = appH (upd s (.h k) (.blk g 1 cs)) (ks.map fun k' => (k', fzn (upd s (.h k) (.blk g 1 cs) (.h k')))) := by
      simp only [List.map_cons, hf, appH, app_cons]
      simp only [hfz]
    rw [e1]
    refine ⟨p1, q2.trans p2, fun k' => ?_⟩
    rw [p3, hfz, hs1]
    by_cases e : k' = k
    · subst e; simp [hf]
    · simp [e]
theorem frozen_row (hp : Hp F s μ w) {s' : S} (hp' : Hp F s' μ w) (hst : Step s μ w s' μ w) {k g st : Nat} {cs : List AV} (hs : s (.h k) = .blk g st cs) (hne : st ≠ 0) (hs' : s' (.h k) = .blk g 1 cs)
    {off n z : Nat} {u : Value} (hr : Rep w μ (Mof F s μ) (.hs k g off n z) u) (hall : ((cs.drop off).take (n * z)).all AV.fz = true) : Rep w μ (Mof F s' μ) (.vs n ((cs.drop off).take (n * z))) u := by
  obtain ⟨c, A, arr, e, f, r1, r2, r3, r4, r5, r6⟩ := hp.row k g st cs hs hne
  simp only [Rep] at hr ⊢
  obtain ⟨c', L, A', cap, h1, rfl, h2, h3⟩ := hr
  rw [r1] at h1
  cases h1
  refine ⟨_, cap, rfl, h2, .inr ⟨c, off, rfl, ?_, Row.of_get fun i x hx => ?_⟩⟩
  · rintro (hF | ⟨k1, g1, cs1, L1, A1, j1, j2⟩)
    · exact (hp.old _ _ _ _ _ r1).2 hF
    · have := hp'.inj k1 g1 2 cs1 k g 1 cs c _ _ _ _ j1 (by decide) hs' (by decide) j2 r1
      subst this
      rw [hs'] at j1
      cases j1
  · have hfz : x.fz = true := by simp only [List.all_eq_true] at hall; exact hall x (List.mem_of_getElem? hx)
    rw [List.getElem?_take] at hx
    split at hx
    · rw [List.getElem?_drop] at hx
      obtain ⟨_, v, j2, j3⟩ := r6 _ x hx
      exact ⟨hfz, v, by simp [World.cell?, r2, j2], Rep.mono hst.up _ _ j3⟩
    · cases hx
mutual
theorem frz_rep (hp : Hp F s μ w) {s' : S} (hp' : Hp F s' μ w) (hst : Step s μ w s' μ w) (hh : Sub h s) : ∀ (x y : AV) (ks : List Nat) (u : Value), frz h x = some (y, ks) → (∀ k ∈ ks, s' (.h k) = fzn (s (.h k))) →
    Rep w μ (Mof F s μ) x u → Rep w μ (Mof F s' μ) y u
  | .sc v, y, ks, u, he, _, hr => by
    simp only [frz, Option.some.injEq, Prod.mk.injEq] at he; obtain ⟨rfl, rfl⟩ := he
    exact Rep.mono hst.up _ _ hr
  | .vs n xs, y, ks, u, he, _, hr => by
    simp only [frz, Option.some.injEq, Prod.mk.injEq] at he; obtain ⟨rfl, rfl⟩ := he
    exact Rep.mono hst.up _ _ hr
  | .hs k g off n z, y, ks, u, he, hk, hr => by
    simp only [frz] at he
    split at he
    · rename_i g' st cs hb
      split at he
      · rename_i hc
        obtain ⟨rfl, hne, _, hall⟩ := hc
        simp only [Option.some.injEq, Prod.mk.injEq] at he
        obtain ⟨rfl, rfl⟩ := he
        have hs := hh _ _ _ _ hb
        exact frozen_row hp hp' hst hs hne (by rw [hk k (by simp), hs]; rfl) hr hall
      · cases he
    · cases he
  | .hp k g off, y, ks, u, he, _, _ => by simp [frz] at he
  | .vp xs, y, ks, u, he, _, _ => by simp [frz] at he
  | .agg cs, y, ks, u, he, hk, hr => by
    simp only [frz] at he
    split at he
    · rename_i l ks' h1
      simp only [Option.some.injEq, Prod.mk.injEq] at he
      obtain ⟨rfl, rfl⟩ := he
      simp only [Rep] at hr ⊢
      obtain ⟨vs, h2, h3⟩ := hr
      exact ⟨vs, h2, frzL_rep hp hp' hst hh cs _ _ _ h1 hk h3⟩
    · cases he
  | .tup cs, y, ks, u, he, hk, hr => by
    simp only [frz] at he
    split at he
    · rename_i l ks' h1
      simp only [Option.some.injEq, Prod.mk.injEq] at he
      obtain ⟨rfl, rfl⟩ := he
      simp only [Rep] at hr ⊢
      obtain ⟨vs, h2, h3⟩ := hr
      exact ⟨vs, h2, frzL_rep hp hp' hst hh cs _ _ _ h1 hk h3⟩
    · cases he
  | .blk g st cs, y, ks, u, he, _, _ => by simp [frz] at he
theorem frzL_rep (hp : Hp F s μ w) {s' : S} (hp' : Hp F s' μ w) (hst : Step s μ w s' μ w) (hh : Sub h s) : ∀ (xs ys : List AV) (ks : List Nat) (us : List Value), frzL h xs = some (ys, ks) → (∀ k ∈ ks, s' (.h k) = fzn (s (.h k))) →
    RepL w μ (Mof F s μ) xs us → RepL w μ (Mof F s' μ) ys us
  | [], ys, ks, us, he, _, hr => by
    simp only [frzL, Option.some.injEq, Prod.mk.injEq] at he; obtain ⟨rfl, rfl⟩ := he
    cases us with
    | nil => simp [RepL]
    | cons u us => simp [RepL] at hr
  | x :: xs, ys, ks, us, he, hk, hr => by
    simp only [frzL] at he
    split at he
    · rename_i y k1 ys' k2 h1 h2
      simp only [Option.some.injEq, Prod.mk.injEq] at he
      obtain ⟨rfl, rfl⟩ := he
      cases us with
      | nil => simp [RepL] at hr
      | cons u us =>
        simp only [RepL] at hr ⊢
        exact ⟨frz_rep hp hp' hst hh x _ _ _ h1 (fun k h => hk k (by simp [h])) hr.1, frzL_rep hp hp' hst hh xs _ _ _ h2 (fun k h => hk k (by simp [h])) hr.2⟩
    · cases he
end
theorem Hp.later {w' : World} (hp : Hp F s μ w) (he : Ext M0 w w') : Hp F s μ w' ∧ Step s μ w s μ w' := by
  have hst : Step s μ w s μ w' := ⟨fun _ _ _ h => h, he.weaken fun _ _ h => h.elim, fun _ _ h => h⟩
  refine ⟨⟨fun k g st cs h1 h2 => ?_, hp.inj, fun k g c L A h1 => ⟨Nat.lt_of_lt_of_le (hp.old k g c L A h1).1 he.size, (hp.old k g c L A h1).2⟩, hp.gen, hp.isb, fun c hc => Nat.lt_of_lt_of_le (hp.fb c hc) he.size⟩, hst⟩
  obtain ⟨c, A, arr, e, f, r1, r2, r3, r4, r5, r6⟩ := hp.row k g st cs h1 h2
  refine ⟨c, A, arr, e, f, r1, ?_, r3, r4, r5, fun i x hx => ?_⟩
  · rw [he.block c (hp.old _ _ _ _ _ r1).1 (fun h => h.elim)]
    exact r2
  · obtain ⟨j1, u, j2, j3⟩ := r6 i x hx
    exact ⟨j1, u, j2, Rep.mono hst.up _ _ j3⟩
theorem M0_sub (M : Nat → Prop) : ∀ b, M0 b → M b := fun _ h => h.elim
end
end Go.Ab
end
section
namespace Go.Ab
open Go
def KA : Nat := 1000000
def μ1 (G c n A : Nat) : Mu := fun k g => if k = KA ∧ g = G then some (c, n, A) else none
theorem μ1_at (G c n A : Nat) : μ1 G c n A KA G = some (c, n, A) := by simp [μ1]
mutual
def AV.keep (k g : Nat) : AV → Bool
  | .sc _ => true
  | .vs .. => true
  | .hs k' g' _ _ _ => k' == k && g' == g
  | .hp k' g' _ => k' == k && g' == g
  | .agg cs => AV.keepL k g cs
  | .tup cs => AV.keepL k g cs
  | .vp _ => false
  | .blk .. => false
def AV.keepL (k g : Nat) : List AV → Bool
  | [] => true
  | x :: xs => AV.keep k g x && AV.keepL k g xs
end
mutual
def AV.to (k g : Nat) : AV → AV
  | .sc v => .sc v
  | .vs n xs => .vs n xs
  | .hs _ _ o n z => .hs k g o n z
  | .hp _ _ o => .hp k g o
  | .agg cs => .agg (AV.toL k g cs)
  | .tup cs => .tup (AV.toL k g cs)
  | .vp xs => .vp xs
  | .blk g s cs => .blk g s cs
def AV.toL (k g : Nat) : List AV → List AV
  | [] => []
  | x :: xs => AV.to k g x :: AV.toL k g xs
end
section
variable {w : World} {μ μ' : Mu} {M M' : Nat → Prop} {k g k2 g2 : Nat}
mutual
theorem Rep.to (hM : ∀ b, M' b → M b) (hμ : μ' k2 g2 = μ k g) : ∀ (x : AV) (v : Value), x.keep k g = true → Rep w μ M x v → Rep w μ' M' (x.to k2 g2) v
  | .sc u, v, _, h => by simpa [Rep, AV.to] using h
  | .vs n xs, v, _, h => by
    exact Rep.ghost hM (.vs n xs) v rfl h
  | .hs k' g' o n z, v, hk, h => by
    simp only [AV.keep, Bool.and_eq_true, beq_iff_eq] at hk
    obtain ⟨rfl, rfl⟩ := hk
    simp only [Rep, AV.to] at h ⊢
    rw [hμ]; exact h
  | .hp k' g' o, v, hk, h => by
    simp only [AV.keep, Bool.and_eq_true, beq_iff_eq] at hk
    obtain ⟨rfl, rfl⟩ := hk
    simp only [Rep, AV.to] at h ⊢
    rw [hμ]; exact h
  | .agg cs, v, hk, h => by
    simp only [Rep, AV.to, AV.keep] at h hk ⊢
    obtain ⟨vs, h1, h2⟩ := h
    exact ⟨vs, h1, RepL.to hM hμ cs _ hk h2⟩
  | .tup cs, v, hk, h => by
    simp only [Rep, AV.to, AV.keep] at h hk ⊢
    obtain ⟨vs, h1, h2⟩ := h
    exact ⟨vs, h1, RepL.to hM hμ cs _ hk h2⟩
  | .vp xs, v, hk, h => by simp [AV.keep] at hk
  | .blk .., v, hk, h => by simp [AV.keep] at hk
theorem RepL.to (hM : ∀ b, M' b → M b) (hμ : μ' k2 g2 = μ k g) : ∀ (xs : List AV) (vs : List Value), AV.keepL k g xs = true → RepL w μ M xs vs → RepL w μ' M' (AV.toL k2 g2 xs) vs
  | [], vs, _, h => by
    cases vs with
    | nil => simp [RepL, AV.toL]
    | cons v vs => simp [RepL] at h
  | x :: xs, vs, hk, h => by
    cases vs with
    | nil => simp [RepL] at h
    | cons v vs =>
      simp only [RepL, AV.toL, AV.keepL, Bool.and_eq_true] at h hk ⊢
      exact ⟨Rep.to hM hμ x v hk.1 h.1, RepL.to hM hμ xs vs hk.2 h.2⟩
end
mutual
theorem AV.to_self : ∀ (x : AV), x.keep k g = true → x.to k g = x
  | .sc u, _ => rfl
  | .vs n xs, _ => rfl
  | .hs k' g' o n z, hk => by
    simp only [AV.keep, Bool.and_eq_true, beq_iff_eq] at hk
    obtain ⟨rfl, rfl⟩ := hk
    rfl
  | .hp k' g' o, hk => by
    simp only [AV.keep, Bool.and_eq_true, beq_iff_eq] at hk
    obtain ⟨rfl, rfl⟩ := hk
    rfl
  | .agg cs, hk => by simp only [AV.to, AV.keep] at hk ⊢; rw [AV.toL_self cs hk]
  | .tup cs, hk => by simp only [AV.to, AV.keep] at hk ⊢; rw [AV.toL_self cs hk]
  | .vp xs, hk => by simp [AV.keep] at hk
  | .blk .., hk => by simp [AV.keep] at hk
theorem AV.toL_self : ∀ (xs : List AV), AV.keepL k g xs = true → AV.toL k g xs = xs
  | [], _ => rfl
  | x :: xs, hk => by
    simp only [AV.toL, AV.keepL, Bool.and_eq_true] at hk ⊢
    rw [AV.to_self x hk.1, AV.toL_self xs hk.2]
end
end
def Holds (w : World) (M : Nat → Prop) (c A : Nat) (L : List AV) : Prop :=
  ∃ arr e f, w.heap[c]? = some (.cells arr e f) ∧ arr.size = A ∧ L.length ≤ A ∧ (∀ o, o < A → ¬ (f.1 ≤ o ∧ o < f.2)) ∧ ∀ (i : Nat) (x : AV), L[i]? = some x → x.fz = true ∧ ∃ v, arr[i]? = some v ∧ Rep w μ0 M x v
structure SpecH (P : Program) (f : FuncId) (as : List AV) (L : List AV) (r : AV) (G : Nat) (L' : List AV) : Prop where
  enter : ∀ args w, (callFunc f args).run P w = .ok (.enter f args) w
  calls : ∀ (M : Nat → Prop) (w : World) (vs : List Value) (c A : Nat), (∀ b, M b → b < w.heap.size) → c < w.heap.size → ¬ M c → Holds w (fun b => M b ∨ b = c) c A L →
    TabOK w (fun b => M b ∨ b = c) → RepL w (μ1 1 c L.length A) (fun b => M b ∨ b = c) as vs →
    Calls P f vs.toArray w (fun e w' => match e with
      | .returned v => ∃ c' A', (c' = c ∨ w.heap.size ≤ c') ∧ c' < w'.heap.size ∧ (G = 1 → c' = c ∧ A' = A ∧ L'.length = L.length) ∧ Holds w' (fun b => M b ∨ b = c') c' A' L' ∧ Rep w' (μ1 G c' L'.length A') (fun b => M b ∨ b = c') r v ∧ Ext (fun b => b = c) w w'
      | .outgrown => False
      | .panicked _ => False)
  keep : r.keep KA G = true
  pos : 1 ≤ G
def frzH (h : Nat → AV) (k : Nat) : AV → Option (AV × List Nat)
  | .hs k' g off n z => if k' = k then some (.hs k' g off n z, []) else frz h (.hs k' g off n z)
  | .hp k' g off => if k' = k then some (.hp k' g off, []) else none
  | x => frz h x
def frzHL (h : Nat → AV) (k : Nat) : List AV → Option (List AV × List Nat)
  | [] => some ([], [])
  | x :: xs => match frzH h k x, frzHL h k xs with
    | some (y, ks), some (ys, ls) => some (y :: ys, ks ++ ls)
    | _, _ => none
section
variable {F : Nat → Prop} {s s' : S} {μ : Mu} {w : World} {h : Nat → AV} {k : Nat}
theorem frzH_sites : ∀ (x y : AV) (ks : List Nat), frzH h k x = some (y, ks) → ∀ k' ∈ ks, ∃ g st cs, h k' = .blk g st cs ∧ st ≠ 0 := by
  intro x y ks he
  unfold frzH at he
  split at he
  · split at he
    · cases he; intro k' hk; cases hk
    · exact (frz_sites _ _ _ he).2
  · split at he
    · cases he; intro k' hk; cases hk
    · cases he
  · exact (frz_sites _ _ _ he).2
theorem frzHL_sites : ∀ (xs ys : List AV) (ks : List Nat), frzHL h k xs = some (ys, ks) → ∀ k' ∈ ks, ∃ g st cs, h k' = .blk g st cs ∧ st ≠ 0
  | [], ys, ks, he => by cases he; intro k' hk; cases hk
  | x :: xs, ys, ks, he => by
    simp only [frzHL] at he
    split at he
    · rename_i y k1 ys' k2 h1 h2
      cases he
      intro k' hk'
      rcases List.mem_append.1 hk' with hk' | hk'
      · exact frzH_sites x _ _ h1 k' hk'
      · exact frzHL_sites xs _ _ h2 k' hk'
    · cases he
theorem frzH_rep (hp : Hp F s μ w) (hp' : Hp F s' μ w) (hst : Step s μ w s' μ w) (hh : Sub h s) (x y : AV) (ks : List Nat) (u : Value) (he : frzH h k x = some (y, ks)) (hk : ∀ k ∈ ks, s' (.h k) = fzn (s (.h k))) (hr : Rep w μ (Mof F s μ) x u) : Rep w μ (Mof F s' μ) y u := by
  unfold frzH at he
  split at he
  · split at he
    · cases he; exact Rep.mono hst.up _ _ hr
    · exact frz_rep hp hp' hst hh _ _ _ _ he hk hr
  · split at he
    · cases he; exact Rep.mono hst.up _ _ hr
    · cases he
  · exact frz_rep hp hp' hst hh _ _ _ _ he hk hr
theorem frzHL_rep (hp : Hp F s μ w) (hp' : Hp F s' μ w) (hst : Step s μ w s' μ w) (hh : Sub h s) : ∀ (xs ys : List AV) (ks : List Nat) (us : List Value), frzHL h k xs = some (ys, ks) → (∀ k ∈ ks, s' (.h k) = fzn (s (.h k))) → RepL w μ (Mof F s μ) xs us → RepL w μ (Mof F s' μ) ys us
  | [], ys, ks, us, he, _, hr => by
    cases he
    cases us with
    | nil => simp [RepL]
    | cons u us => simp [RepL] at hr
  | x :: xs, ys, ks, us, he, hk, hr => by
    simp only [frzHL] at he
    split at he
    · rename_i y k1 ys' k2 h1 h2
      cases he
      cases us with
      | nil => simp [RepL] at hr
      | cons u us =>
        simp only [RepL] at hr ⊢
        exact ⟨frzH_rep hp hp' hst hh x _ _ _ h1 (fun k h => hk k (by simp [h])) hr.1, frzHL_rep hp hp' hst hh xs _ _ _ h2 (fun k h => hk k (by simp [h])) hr.2⟩
    · cases he
theorem lent {c A g G : Nat} {cs L' : List AV} (hp : Hp F s μ w) (hk : s (.h k) = .blk g 2 cs) (hm : μ k g = some (c, cs.length, A)) (hG : 1 ≤ G) {w' : World} {c' A' : Nat} (hc : c' = c ∨ w.heap.size ≤ c') (hc' : c' < w'.heap.size) (hsame : G = 1 → c' = c ∧ A' = A ∧ L'.length = cs.length)
    (hold : Holds w' (fun b => (Mof F s μ b ∧ b ≠ c) ∨ b = c') c' A' L') (hext : Ext (fun b => b = c) w w') :
    ∃ μ', μ' k (g + (G - 1)) = some (c', L'.length, A') ∧ Hp F (upd s (.h k) (.blk (g + (G - 1)) 2 L')) μ' w' ∧ Step s μ w (upd s (.h k) (.blk (g + (G - 1)) 2 L')) μ' w' ∧
      ∀ b, Mof F (upd s (.h k) (.blk (g + (G - 1)) 2 L')) μ' b → (Mof F s μ b ∧ b ≠ c) ∨ b = c' := by
  refine ⟨fun k1 g1 => if k1 = k ∧ g1 = g + (G - 1) then some (c', L'.length, A') else μ k1 g1, by simp, ?_⟩
  have hsub : ∀ b, Mof F (upd s (.h k) (.blk (g + (G - 1)) 2 L')) (fun k1 g1 => if k1 = k ∧ g1 = g + (G - 1) then some (c', L'.length, A') else μ k1 g1) b → (Mof F s μ b ∧ b ≠ c) ∨ b = c' := by
    rintro b (hF | ⟨k1, g1, cs1, L1, A1, h1, h2⟩)
    · refine .inl ⟨.inl hF, ?_⟩
      rintro rfl
      exact (hp.old _ _ _ _ _ hm).2 hF
    · by_cases e : k1 = k
      · subst e
        rw [upd_same] at h1
        cases h1
        simp only [and_self, if_true, Option.some.injEq, Prod.mk.injEq] at h2
        exact .inr h2.1.symm
      · rw [upd_other _ _ (by simpa using e)] at h1
        simp only [e, false_and, if_false] at h2
        refine .inl ⟨.inr ⟨k1, g1, cs1, L1, A1, h1, h2⟩, ?_⟩
        rintro rfl
        exact e (hp.inj k1 g1 2 cs1 k g 2 cs b _ _ _ _ h1 (by decide) hk (by decide) h2 hm)
  obtain ⟨q1, q2⟩ := hp.upd (μ' := fun k1 g1 => if k1 = k ∧ g1 = g + (G - 1) then some (c', L'.length, A') else μ k1 g1) (w' := w') k g 2 cs hk (g + (G - 1)) 2 L' c' A' (by omega)
    (fun k1 g1 hne => if_neg hne) (by simp) (fun e => by
      obtain ⟨rfl, rfl, e3⟩ := hsame (by omega)
      simp [e, hm, e3])
    (by
      rcases hc with rfl | hc
      · exact .inr ⟨_, A, by decide, hm, fun _ => rfl⟩
      · exact .inl hc) hc' hext.os hext.tape hext.output hext.size
    (fun b hb hne => hext.block b hb fun e => hne ⟨rfl, _, A, by subst e; exact hm⟩)
    (fun up _ => by
      obtain ⟨arr, e, f, a1, a2, a3, a4, a5⟩ := hold
      refine ⟨arr, e, f, a1, a2, a3, a4, fun i x hx => ?_⟩
      obtain ⟨h1, v, h2, h3⟩ := a5 i x hx
      exact ⟨AV.one_of_fz h1, v, h2, Rep.ghost hsub x v (AV.pure_of_fz h1) h3⟩)
  exact ⟨q1, q2, hsub⟩
end
structure SpecO (P : Program) (f : FuncId) (as : List AV) (r : AV) (L : List AV) : Prop where
  enter : ∀ args w, (callFunc f args).run P w = .ok (.enter f args) w
  calls : ∀ (M : Nat → Prop) (w : World) (vs : List Value), (∀ b, M b → b < w.heap.size) → TabOK w M → RepL w μ0 M as vs →
    Calls P f vs.toArray w (fun e w' => match e with
      | .returned v => ∃ c A, w.heap.size ≤ c ∧ c < w'.heap.size ∧ Holds w' (fun b => M b ∨ b = c) c A L ∧ Rep w' (μ1 1 c L.length A) (fun b => M b ∨ b = c) r v ∧ Ext M0 w w'
      | .outgrown => False
      | .panicked _ => False)
  keep : r.keep KA 1 = true
section
variable {F : Nat → Prop} {s s' : S} {μ : Mu} {w : World}
theorem own_new {k g st : Nat} {cs : List AV} (hp : Hp F s μ w) (hk : s (.h k) = .blk g st cs) {w' : World} {c A : Nat} {L : List AV} (hc : w.heap.size ≤ c) (hc' : c < w'.heap.size)
    (hold : Holds w' (fun b => Mof F s μ b ∨ b = c) c A L) (hext : Ext M0 w w') :
    ∃ μ', μ' k (g + 1) = some (c, L.length, A) ∧ Hp F (upd s (.h k) (.blk (g + 1) 2 L)) μ' w' ∧ Step s μ w (upd s (.h k) (.blk (g + 1) 2 L)) μ' w' ∧
      ∀ b, Mof F (upd s (.h k) (.blk (g + 1) 2 L)) μ' b → Mof F s μ b ∨ b = c := by
  refine ⟨fun k1 g1 => if k1 = k ∧ g1 = g + 1 then some (c, L.length, A) else μ k1 g1, by simp, ?_⟩
  have hsub : ∀ b, Mof F (upd s (.h k) (.blk (g + 1) 2 L)) (fun k1 g1 => if k1 = k ∧ g1 = g + 1 then some (c, L.length, A) else μ k1 g1) b → Mof F s μ b ∨ b = c := by
    rintro b (hF | ⟨k1, g1, cs1, L1, A1, h1, h2⟩)
    · exact .inl (.inl hF)
    · by_cases e : k1 = k
      · subst e
        rw [upd_same] at h1
        cases h1
        simp only [and_self, if_true, Option.some.injEq, Prod.mk.injEq] at h2
        exact .inr h2.1.symm
      · rw [upd_other _ _ (by simpa using e)] at h1
        simp only [e, false_and, if_false] at h2
        exact .inl (.inr ⟨k1, g1, cs1, L1, A1, h1, h2⟩)
  obtain ⟨q1, q2⟩ := hp.upd (μ' := fun k1 g1 => if k1 = k ∧ g1 = g + 1 then some (c, L.length, A) else μ k1 g1) (w' := w') k g st cs hk (g + 1) 2 L c A (by omega)
    (fun k1 g1 hne => if_neg hne) (by simp) (fun e => by omega) (.inl hc) hc' hext.os hext.tape hext.output hext.size
    (fun b hb _ => hext.block b hb fun e => e)
    (fun up _ => by
      obtain ⟨arr, e, f, a1, a2, a3, a4, a5⟩ := hold
      refine ⟨arr, e, f, a1, a2, a3, a4, fun i x hx => ?_⟩
      obtain ⟨h1, v, h2, h3⟩ := a5 i x hx
      exact ⟨AV.one_of_fz h1, v, h2, Rep.ghost hsub x v (AV.pure_of_fz h1) h3⟩)
  exact ⟨q1, q2, hsub⟩
end
end Go.Ab
end
section
namespace Go.Ab
open Go
abbrev New := Nat × List AV × Nat × Nat
def sMany (s : S) (u : Nat → Option New) : S
  | .t i => s (.t i)
  | .h k => match u k with
    | some n => .blk n.1 2 n.2.1
    | none => s (.h k)
def μMany (μ : Mu) (u : Nat → Option New) : Mu := fun k g => match u k with
  | some n => if g = n.1 then some (n.2.2.1, n.2.1.length, n.2.2.2) else μ k g
  | none => μ k g
theorem Hp.many {F : Nat → Prop} {s : S} {μ : Mu} {w w' : World} (h : Hp F s μ w) (u : Nat → Option New)
    (hu : ∀ k n, u k = some n → ∃ g st cs, s (.h k) = .blk g st cs ∧ g ≤ n.1 ∧ (n.1 = g → μ k g = some (n.2.2.1, n.2.1.length, n.2.2.2)) ∧
      (w.heap.size ≤ n.2.2.1 ∨ ∃ k2 n2 g2 cs2 L A, u k2 = some n2 ∧ s (.h k2) = .blk g2 2 cs2 ∧ μ k2 g2 = some (n.2.2.1, L, A)) ∧ n.2.2.1 < w'.heap.size)
    (hinj : ∀ k k2 n n2, u k = some n → u k2 = some n2 → n.2.2.1 = n2.2.2.1 → k = k2)
    (hos : w'.os = w.os) (htape : w'.tape = w.tape) (hout : w'.output = w.output) (hsz : w.heap.size ≤ w'.heap.size)
    (hblk : ∀ b, b < w.heap.size → ¬ (∃ k n g cs L A, u k = some n ∧ s (.h k) = .blk g 2 cs ∧ μ k g = some (b, L, A)) → w'.heap[b]? = w.heap[b]?)
    (hrow : Up w μ (Mof F s μ) w' (μMany μ u) (Mof F (sMany s u) (μMany μ u)) → ∀ k n, u k = some n → ∃ arr e f, w'.heap[n.2.2.1]? = some (.cells arr e f) ∧ arr.size = n.2.2.2 ∧ n.2.1.length ≤ n.2.2.2 ∧
      (∀ o, o < n.2.2.2 → ¬ (f.1 ≤ o ∧ o < f.2)) ∧ ∀ (i : Nat) (x : AV), n.2.1[i]? = some x → x.one = true ∧ ∃ v, arr[i]? = some v ∧ Rep w' (μMany μ u) (Mof F (sMany s u) (μMany μ u)) x v) :
    Hp F (sMany s u) (μMany μ u) w' ∧ Step s μ w (sMany s u) (μMany μ u) w' := by
  have eu : ∀ k n, u k = some n → sMany s u (.h k) = .blk n.1 2 n.2.1 := fun k n hk => by simp [sMany, hk]
  have en : ∀ k, u k = none → sMany s u (.h k) = s (.h k) := fun k hk => by simp [sMany, hk]
  have mu1 : ∀ k n, u k = some n → μMany μ u k n.1 = some (n.2.2.1, n.2.1.length, n.2.2.2) := fun k n hk => by simp [μMany, hk]
  have mu2 : ∀ k n g, u k = some n → g ≠ n.1 → μMany μ u k g = μ k g := fun k n g hk hg => by simp [μMany, hk, hg]
  have mn : ∀ k g, u k = none → μMany μ u k g = μ k g := fun k g hk => by simp [μMany, hk]
  have hle : MuLe μ (μMany μ u) := by
    intro k g c hc
    cases hk : u k with
    | none => rw [mn k g hk]; exact hc
    | some n =>
      by_cases hg : g = n.1
      · obtain ⟨g0, st, cs, h1, h2, h3, _⟩ := hu k n hk
        subst hg
        rw [mu1 k n hk]
        by_cases e : n.1 = g0
        · have := h3 e
          rw [e] at hc
          rw [← this, hc]
        · rw [h.gen k g0 st cs h1 n.1 (by omega)] at hc
          cases hc
      · rw [mu2 k n g hk hg]; exact hc
  have hown : ∀ k n, u k = some n → n.2.2.1 < w.heap.size → Wof s μ n.2.2.1 := by
    intro k n hk hlt
    obtain ⟨g0, st, cs, h1, h2, h3, h4, h5⟩ := hu k n hk
    rcases h4 with h4 | ⟨k2, n2, g2, cs2, L, A, _, h5', h6⟩
    · omega
    · exact ⟨k2, g2, cs2, L, A, h5', h6⟩
  have hmof : ∀ c, c < w.heap.size → Wof (sMany s u) (μMany μ u) c → Wof s μ c := by
    rintro c hlt ⟨k, g, cs, L, A, h1, h2⟩
    cases hk : u k with
    | none =>
      rw [en k hk] at h1
      rw [mn k g hk] at h2
      exact ⟨k, g, cs, L, A, h1, h2⟩
    | some n =>
      rw [eu k n hk] at h1
      cases h1
      rw [mu1 k n hk] at h2
      cases h2
      exact hown k n hk hlt
  have hext : Ext (Wof s μ) w w' := ⟨hos, htape, hout, hsz, fun b hb hM => hblk b hb fun ⟨k, n, g, cs, L, A, _, h2, h3⟩ => hM ⟨k, g, cs, L, A, h2, h3⟩⟩
  have hst : Step s μ w (sMany s u) (μMany μ u) w' := ⟨hle, hext, hmof⟩
  have apart : ∀ k n, u k = some n → ∀ k2 g2 st2 cs2 L A, s (.h k2) = .blk g2 st2 cs2 → st2 ≠ 0 → μ k2 g2 = some (n.2.2.1, L, A) → u k2 ≠ none := by
    intro k n hk k2 g2 st2 cs2 L A h1 h2 h3
    obtain ⟨g0, st, cs, a1, a2, a3, a4, a5⟩ := hu k n hk
    rcases a4 with a4 | ⟨k3, n3, g3, cs3, L', A', b1, b2, a6⟩
    · have := (h.old _ _ _ _ _ h3).1; omega
    · have := h.inj k2 g2 st2 cs2 k3 g3 2 cs3 n.2.2.1 _ _ _ _ h1 h2 b2 (by decide) h3 a6
      rw [this, b1]
      exact nofun
  refine ⟨⟨?_, ?_, ?_, ?_, ?_, ?_⟩, hst⟩
  · intro k g st cs h1 hst0
    cases hk : u k with
    | some n =>
      rw [eu k n hk] at h1
      cases h1
      obtain ⟨arr, el, f, h2⟩ := hrow hst.up k n hk
      exact ⟨n.2.2.1, n.2.2.2, arr, el, f, mu1 k n hk, h2⟩
    | none =>
      rw [en k hk] at h1
      obtain ⟨c, A, arr, el, f, h2, h3, h4, h5, h6, h7⟩ := h.row k g st cs h1 hst0
      refine ⟨c, A, arr, el, f, by rw [mn k g hk]; exact h2, ?_, h4, h5, h6, fun i x hx => ?_⟩
      · rw [hblk c (h.old _ _ _ _ _ h2).1 fun ⟨k2, n2, g2, cs2, L2, A2, q1, q2, q3⟩ => by
          have := h.inj k g st cs k2 g2 2 cs2 c _ _ L2 A2 h1 hst0 q2 (by decide) h2 q3
          subst this
          rw [hk] at q1; cases q1]
        exact h3
      · obtain ⟨h8, v, h9, h10⟩ := h7 i x hx
        exact ⟨h8, v, h9, Rep.mono hst.up _ _ h10⟩
  · intro k1 g1 st1 cs1 k2 g2 st2 cs2 c L A L' A2 h1 hs1 h2 hs2 h3 h4
    cases hk1 : u k1 with
    | some n1 =>
      rw [eu k1 n1 hk1] at h1
      cases h1
      rw [mu1 k1 n1 hk1] at h3
      cases h3
      cases hk2 : u k2 with
      | some n2 =>
        rw [eu k2 n2 hk2] at h2
        cases h2
        rw [mu1 k2 n2 hk2] at h4
        simp only [Option.some.injEq, Prod.mk.injEq] at h4
        exact hinj k1 k2 n1 n2 hk1 hk2 h4.1.symm
      | none =>
        rw [en k2 hk2] at h2
        rw [mn k2 g2 hk2] at h4
        exact absurd hk2 (apart k1 n1 hk1 k2 g2 st2 cs2 _ _ h2 hs2 h4)
    | none =>
      rw [en k1 hk1] at h1
      rw [mn k1 g1 hk1] at h3
      cases hk2 : u k2 with
      | some n2 =>
        rw [eu k2 n2 hk2] at h2
        cases h2
        rw [mu1 k2 n2 hk2] at h4
        cases h4
        exact absurd hk1 (apart k2 n2 hk2 k1 g1 st1 cs1 _ _ h1 hs1 h3)
      | none =>
        rw [en k2 hk2] at h2
        rw [mn k2 g2 hk2] at h4
        exact h.inj k1 g1 st1 cs1 k2 g2 st2 cs2 c _ _ _ _ h1 hs1 h2 hs2 h3 h4
  · intro k g c L A h1
    cases hk : u k with
    | none =>
      rw [mn k g hk] at h1
      exact ⟨Nat.lt_of_lt_of_le (h.old _ _ _ _ _ h1).1 hsz, (h.old _ _ _ _ _ h1).2⟩
    | some n =>
      by_cases hg : g = n.1
      · subst hg
        rw [mu1 k n hk] at h1
        cases h1
        obtain ⟨g0, st, cs, a1, a2, a3, a4, a5⟩ := hu k n hk
        refine ⟨a5, ?_⟩
        rcases a4 with a4 | ⟨_, _, _, _, L', A', _, _, a6⟩
        · intro hF; have := h.fb _ hF; omega
        · exact (h.old _ _ _ _ _ a6).2
      · rw [mu2 k n g hk hg] at h1
        exact ⟨Nat.lt_of_lt_of_le (h.old _ _ _ _ _ h1).1 hsz, (h.old _ _ _ _ _ h1).2⟩
  · intro k g st cs h1 g2 hg
    cases hk : u k with
    | none =>
      rw [en k hk] at h1
      rw [mn k g2 hk]
      exact h.gen k g st cs h1 g2 hg
    | some n =>
      rw [eu k n hk] at h1
      cases h1
      obtain ⟨g0, st0, cs0, a1, a2, _⟩ := hu k n hk
      rw [mu2 k n g2 hk (by omega)]
      exact h.gen k g0 st0 cs0 a1 g2 (by omega)
  · intro k
    cases hk : u k with
    | none => rw [en k hk]; exact h.isb k
    | some n => exact ⟨n.1, 2, n.2.1, eu k n hk⟩
  · intro c hF
    exact Nat.lt_of_lt_of_le (h.fb c hF) hsz
mutual
def AV.kp (ok : Nat → Nat → Bool) : AV → Bool
  | .sc _ => true
  | .vs .. => true
  | .hs k g _ _ _ => ok k g
  | .hp k g _ => ok k g
  | .agg cs => AV.kpL ok cs
  | .tup cs => AV.kpL ok cs
  | .vp _ => false
  | .blk .. => false
def AV.kpL (ok : Nat → Nat → Bool) : List AV → Bool
  | [] => true
  | x :: xs => AV.kp ok x && AV.kpL ok xs
end
mutual
def AV.ren (σ : Nat → Nat → Nat × Nat) : AV → AV
  | .sc v => .sc v
  | .vs n xs => .vs n xs
  | .hs k g o n z => .hs (σ k g).1 (σ k g).2 o n z
  | .hp k g o => .hp (σ k g).1 (σ k g).2 o
  | .agg cs => .agg (AV.renL σ cs)
  | .tup cs => .tup (AV.renL σ cs)
  | .vp xs => .vp xs
  | .blk g s cs => .blk g s cs
def AV.renL (σ : Nat → Nat → Nat × Nat) : List AV → List AV
  | [] => []
  | x :: xs => AV.ren σ x :: AV.renL σ xs
end
section
variable {w : World} {μ μ' : Mu} {M M' : Nat → Prop} {ok : Nat → Nat → Bool} {σ : Nat → Nat → Nat × Nat}
mutual
theorem Rep.ren (hM : ∀ b, M' b → M b) (hμ : ∀ k g e, ok k g = true → μ k g = some e → μ' (σ k g).1 (σ k g).2 = some e) : ∀ (x : AV) (v : Value), x.kp ok = true → Rep w μ M x v → Rep w μ' M' (x.ren σ) v
  | .sc u, v, _, h => by simpa [Rep, AV.ren] using h
  | .vs n xs, v, _, h => by
    exact Rep.ghost hM (.vs n xs) v rfl h
  | .hs k g o n z, v, hk, h => by
    simp only [AV.kp] at hk
    simp only [Rep, AV.ren] at h ⊢
    obtain ⟨c, L, A, cap, h1, h2⟩ := h
    exact ⟨c, L, A, cap, hμ _ _ _ hk h1, h2⟩
  | .hp k g o, v, hk, h => by
    simp only [AV.kp] at hk
    simp only [Rep, AV.ren] at h ⊢
    obtain ⟨c, L, A, h1, h2⟩ := h
    exact ⟨c, L, A, hμ _ _ _ hk h1, h2⟩
  | .agg cs, v, hk, h => by
    simp only [Rep, AV.ren, AV.kp] at h hk ⊢
    obtain ⟨vs, h1, h2⟩ := h
    exact ⟨vs, h1, RepL.ren hM hμ cs _ hk h2⟩
  | .tup cs, v, hk, h => by
    simp only [Rep, AV.ren, AV.kp] at h hk ⊢
    obtain ⟨vs, h1, h2⟩ := h
    exact ⟨vs, h1, RepL.ren hM hμ cs _ hk h2⟩
  | .vp xs, v, hk, h => by simp [AV.kp] at hk
  | .blk .., v, hk, h => by simp [AV.kp] at hk
theorem RepL.ren (hM : ∀ b, M' b → M b) (hμ : ∀ k g e, ok k g = true → μ k g = some e → μ' (σ k g).1 (σ k g).2 = some e) : ∀ (xs : List AV) (vs : List Value), AV.kpL ok xs = true → RepL w μ M xs vs → RepL w μ' M' (AV.renL σ xs) vs
  | [], vs, _, h => by
    cases vs with
    | nil => simp [RepL, AV.renL]
    | cons v vs => simp [RepL] at h
  | x :: xs, vs, hk, h => by
    cases vs with
    | nil => simp [RepL] at h
    | cons v vs =>
      simp only [RepL, AV.renL, AV.kpL, Bool.and_eq_true] at h hk ⊢
      exact ⟨Rep.ren hM hμ x v hk.1 h.1, RepL.ren hM hμ xs vs hk.2 h.2⟩
end
end
def MB (M : Nat → Prop) (bs : List (Nat × Nat)) : Nat → Prop := fun b => M b ∨ ∃ p ∈ bs, p.1 = b
def μI (Ls : List (List AV)) (bs : List (Nat × Nat)) : Mu := fun k g => if KA ≤ k ∧ g = 1 then (match Ls[k - KA]?, bs[k - KA]? with
  | some L, some b => some (b.1, L.length, b.2)
  | _, _ => none) else none
def μO (Os : List (Nat × List AV)) (bs : List (Nat × Nat)) : Mu := fun k g => if KA ≤ k then (match Os[k - KA]?, bs[k - KA]? with
  | some O, some b => if g = O.1 then some (b.1, O.2.length, b.2) else none
  | _, _ => none) else none
def okL (l : List (Nat × Nat)) (k g : Nat) : Bool := l.any fun p => p.1 == k && p.2 == g
def asg : List (Nat × Nat) → List (Nat × Nat) → Nat → Nat → Nat × Nat
  | a :: l, b :: l', k, g => if a.1 = k ∧ a.2 = g then b else asg l l' k g
  | _, _, _, _ => (0, 0)
def nmI : Nat → List (Nat × Nat) → List (Nat × Nat)
  | i, _ :: l => (KA + i, 1) :: nmI (i + 1) l
  | _, [] => []
def nmO : Nat → List (Nat × List AV) → List (Nat × Nat)
  | i, O :: l => (KA + i, O.1) :: nmO (i + 1) l
  | _, [] => []
theorem okL_asg : ∀ {l l' : List (Nat × Nat)} {k g : Nat}, okL l k g = true → l.length = l'.length → ∃ i : Nat, l[i]? = some (k, g) ∧ l'[i]? = some (asg l l' k g)
  | a :: l, b :: l', k, g, h, hl => by
    by_cases e : a.1 = k ∧ a.2 = g
    · refine ⟨0, ?_, by simp [asg, e]⟩
      obtain ⟨rfl, rfl⟩ := e
      rfl
    · have : okL l k g = true := by
        simp only [okL, List.any_cons, Bool.or_eq_true, Bool.and_eq_true, beq_iff_eq] at h
        rcases h with h | h
        · exact absurd h e
        · exact h
      obtain ⟨i, h1, h2⟩ := okL_asg this (by simpa using hl : l.length = l'.length)
      exact ⟨i + 1, by simpa using h1, by simpa [asg, e] using h2⟩
  | [], _, _, _, h, _ => by simp [okL] at h
  | _ :: _, [], _, _, _, hl => by simp at hl
theorem nmI_len : ∀ (l : List (Nat × Nat)) (i : Nat), (nmI i l).length = l.length
  | [], _ => rfl
  | _ :: l, i => by simp [nmI, nmI_len l]
theorem nmO_len : ∀ (l : List (Nat × List AV)) (i : Nat), (nmO i l).length = l.length
  | [], _ => rfl
  | _ :: l, i => by simp [nmO, nmO_len l]
theorem nmI_get : ∀ {l : List (Nat × Nat)} {i j : Nat} {p : Nat × Nat}, (nmI i l)[j]? = some p → p = (KA + i + j, 1)
  | [], _, _, _, h => by simp [nmI] at h
  | _ :: l, i, 0, p, h => by simpa [nmI] using h.symm
  | _ :: l, i, j + 1, p, h => by
    simp only [nmI, List.getElem?_cons_succ] at h
    have := nmI_get h
    rw [this]
    simp only [Prod.mk.injEq, and_true]
    omega
theorem nmO_get : ∀ {l : List (Nat × List AV)} {i j : Nat} {p : Nat × Nat}, (nmO i l)[j]? = some p → ∃ O, l[j]? = some O ∧ p = (KA + i + j, O.1)
  | [], _, _, _, h => by simp [nmO] at h
  | O :: l, i, 0, p, h => ⟨O, rfl, by simpa [nmO] using h.symm⟩
  | _ :: l, i, j + 1, p, h => by
    simp only [nmO, List.getElem?_cons_succ] at h
    obtain ⟨O, h1, h2⟩ := nmO_get h
    refine ⟨O, by simpa using h1, ?_⟩
    rw [h2]
    simp only [Prod.mk.injEq, and_true]
    omega
def apartB (bs : List (Nat × Nat)) : Prop := ∀ (i j : Nat) (b b' : Nat × Nat), bs[i]? = some b → bs[j]? = some b' → b.1 = b'.1 → i = j
structure SpecG (P : Program) (f : FuncId) (as : List AV) (Ls : List (List AV)) (r : AV) (Os : List (Nat × List AV)) : Prop where
  enter : ∀ args w, (callFunc f args).run P w = .ok (.enter f args) w
  calls : ∀ (M : Nat → Prop) (w : World) (vs : List Value) (bs : List (Nat × Nat)), (∀ b, M b → b < w.heap.size) → bs.length = Ls.length → apartB bs →
    (∀ (i : Nat) (b : Nat × Nat) (L : List AV), bs[i]? = some b → Ls[i]? = some L → b.1 < w.heap.size ∧ ¬ M b.1 ∧ Holds w (MB M bs) b.1 b.2 L) → TabOK w (MB M bs) → RepL w (μI Ls bs) (MB M bs) as vs →
    Calls P f vs.toArray w (fun e w' => match e with
      | .returned v => ∃ bs' : List (Nat × Nat), bs'.length = Os.length ∧ apartB bs' ∧
          (∀ (i : Nat) (b' : Nat × Nat) (O : Nat × List AV), bs'[i]? = some b' → Os[i]? = some O → b'.1 < w'.heap.size ∧ (w.heap.size ≤ b'.1 ∨ ∃ b ∈ bs, b'.1 = b.1) ∧
            (O.1 = 1 → ∀ b L, bs[i]? = some b → Ls[i]? = some L → b' = b ∧ O.2.length = L.length) ∧ Holds w' (MB M bs') b'.1 b'.2 O.2) ∧
          Rep w' (μO Os bs') (MB M bs') r v ∧ Ext (fun b => ∃ p ∈ bs, p.1 = b) w w'
      | .outgrown => False
      | .panicked _ => False)
  kp : r.kp (okL (nmO 0 Os)) = true
  len : Ls.length ≤ Os.length
  pos : ∀ (i : Nat) (O : Nat × List AV), Os[i]? = some O → 1 ≤ O.1
def frzD (h : Nat → AV) (k g off n z : Nat) : Option (AV × List Nat) :=
  match h k with
  | .blk g' st cs => if g' = g ∧ st ≠ 0 ∧ off + n * z ≤ cs.length then (match frzL h ((cs.drop off).take (n * z)) with
    | some (ys, ks) => if ys.all AV.fz = true then some (.vs n ys, k :: ks) else none
    | none => none) else none
  | _ => none
def frzE (h : Nat → AV) (k g off n z : Nat) : Option (AV × List Nat) → Option (AV × List Nat)
  | some r => some r
  | none => frzD h k g off n z
mutual
def frzG (h : Nat → AV) (ts : List Nat) : AV → Option (AV × List Nat)
  | .hs k g off n z => if ts.contains k = true then some (.hs k g off n z, []) else frzE h k g off n z (frz h (.hs k g off n z))
  | .hp k g off => if ts.contains k = true then some (.hp k g off, []) else none
  | .agg cs => match frzGL h ts cs with
    | some (l, ks) => some (.agg l, ks)
    | none => none
  | .tup cs => match frzGL h ts cs with
    | some (l, ks) => some (.tup l, ks)
    | none => none
  | .sc v => some (.sc v, [])
  | .vs n xs => some (.vs n xs, [])
  | _ => none
def frzGL (h : Nat → AV) (ts : List Nat) : List AV → Option (List AV × List Nat)
  | [] => some ([], [])
  | x :: xs => match frzG h ts x, frzGL h ts xs with
    | some (y, ks), some (ys, ls) => some (y :: ys, ks ++ ls)
    | _, _ => none
end
section
variable {F : Nat → Prop} {s s' : S} {μ : Mu} {w : World} {h : Nat → AV} {ts : List Nat}
theorem frzE_sites {k g off n z : Nat} {y : AV} {ks : List Nat} (he : frzE h k g off n z (frz h (.hs k g off n z)) = some (y, ks)) : ∀ k ∈ ks, ∃ g st cs, h k = .blk g st cs ∧ st ≠ 0 := by
  cases hf : frz h (.hs k g off n z) with
  | some r =>
    rw [hf] at he
    cases he
    exact (frz_sites _ _ _ hf).2
  | none =>
    rw [hf] at he
    simp only [frzE, frzD] at he
    split at he
    · rename_i g' st cs hb
      split at he
      · rename_i hc
        split at he
        · rename_i ys ls h1
          split at he
          · cases he
            intro k' hk
            rcases List.mem_cons.1 hk with rfl | hk
            · exact ⟨g', st, cs, hb, hc.2.1⟩
            · exact (frzL_sites _ _ _ h1).2 k' hk
          · cases he
        · cases he
      · cases he
    · cases he
theorem frzE_rep (hp : Hp F s μ w) (hp' : Hp F s' μ w) (hst : Step s μ w s' μ w) (hh : Sub h s) {k g off n z : Nat} {y : AV} {ks : List Nat} {u : Value} (he : frzE h k g off n z (frz h (.hs k g off n z)) = some (y, ks)) (hk : ∀ k ∈ ks, s' (.h k) = fzn (s (.h k)))
    (hr : Rep w μ (Mof F s μ) (.hs k g off n z) u) : Rep w μ (Mof F s' μ) y u := by
  cases hf : frz h (.hs k g off n z) with
  | some r =>
    rw [hf] at he
    cases he
    exact frz_rep hp hp' hst hh _ _ _ _ hf hk hr
  | none =>
    rw [hf] at he
    simp only [frzE, frzD] at he
    split at he
    · rename_i g' st cs hb
      split at he
      · rename_i hc
        obtain ⟨rfl, hne, hlen⟩ := hc
        split at he
        · rename_i ys ls h1
          split at he
          · rename_i hall
            cases he
            have hs := hh _ _ _ _ hb
            have hs' : s' (.h k) = .blk g' 1 cs := by rw [hk k (by simp), hs]; rfl
            obtain ⟨c, A, arr, e, f, r1, r2, r3, r4, r5, r6⟩ := hp.row k g' st cs hs hne
            simp only [Rep] at hr ⊢
            obtain ⟨c', L, A', cap, g1, rfl, g2, g3⟩ := hr
            rw [r1] at g1
            cases g1
            obtain ⟨os, o1, _, o3⟩ := row_vals (w := w) (μ := μ) (M := Mof F s μ) (xs := (cs.drop off).take (n * z)) (b := c) (o := off) (fun i x hx => by
              rw [List.getElem?_take] at hx
              split at hx
              · rw [List.getElem?_drop] at hx
                obtain ⟨j1, v, j2, j3⟩ := r6 _ x hx
                exact ⟨j1, v, by simp [World.cell?, r2, j2], j3⟩
              · cases hx)
            have o4 := frzL_rep hp hp' hst hh _ _ _ _ h1 (fun k' hk' => hk k' (by simp [hk'])) o1
            refine ⟨_, cap, rfl, g2, .inr ⟨c, off, rfl, ?_, Row.of_get fun i x hx => ?_⟩⟩
            · rintro (hF | ⟨k1, g1, cs1, L1, A1, j1, j2⟩)
              · exact (hp.old _ _ _ _ _ r1).2 hF
              · have := hp'.inj k1 g1 2 cs1 k g' 1 cs c _ _ _ _ j1 (by decide) hs' (by decide) j2 r1
                subst this
                rw [hs'] at j1
                cases j1
            · have hfz : x.fz = true := by simp only [List.all_eq_true] at hall; exact hall x (List.mem_of_getElem? hx)
              obtain ⟨v, j1, j2⟩ := RepL.get o4 i x hx
              exact ⟨hfz, v, o3 i v j1, j2⟩
          · cases he
        · cases he
      · cases he
    · cases he
mutual
theorem frzG_sites : ∀ (x y : AV) (ks : List Nat), frzG h ts x = some (y, ks) → ∀ k ∈ ks, ∃ g st cs, h k = .blk g st cs ∧ st ≠ 0
  | .sc v, y, ks, he => by simp only [frzG, Option.some.injEq, Prod.mk.injEq] at he; obtain ⟨rfl, rfl⟩ := he; simp
  | .vs n xs, y, ks, he => by simp only [frzG, Option.some.injEq, Prod.mk.injEq] at he; obtain ⟨rfl, rfl⟩ := he; simp
  | .hs k g off n z, y, ks, he => by
    simp only [frzG] at he
    split at he
    · simp only [Option.some.injEq, Prod.mk.injEq] at he; obtain ⟨rfl, rfl⟩ := he; simp
    · exact frzE_sites he
  | .hp k g off, y, ks, he => by
    simp only [frzG] at he
    split at he
    · simp only [Option.some.injEq, Prod.mk.injEq] at he; obtain ⟨rfl, rfl⟩ := he; simp
    · cases he
  | .vp xs, y, ks, he => by simp [frzG] at he
  | .agg cs, y, ks, he => by
    simp only [frzG] at he
    split at he
    · rename_i l ks' h1
      simp only [Option.some.injEq, Prod.mk.injEq] at he
      obtain ⟨rfl, rfl⟩ := he
      exact frzGL_sites cs _ _ h1
    · cases he
  | .tup cs, y, ks, he => by
    simp only [frzG] at he
    split at he
    · rename_i l ks' h1
      simp only [Option.some.injEq, Prod.mk.injEq] at he
      obtain ⟨rfl, rfl⟩ := he
      exact frzGL_sites cs _ _ h1
    · cases he
  | .blk g st cs, y, ks, he => by simp [frzG] at he
theorem frzGL_sites : ∀ (xs ys : List AV) (ks : List Nat), frzGL h ts xs = some (ys, ks) → ∀ k ∈ ks, ∃ g st cs, h k = .blk g st cs ∧ st ≠ 0
  | [], ys, ks, he => by simp only [frzGL, Option.some.injEq, Prod.mk.injEq] at he; obtain ⟨rfl, rfl⟩ := he; simp
  | x :: xs, ys, ks, he => by
    simp only [frzGL] at he
    split at he
    · rename_i y k1 ys' k2 h1 h2
      simp only [Option.some.injEq, Prod.mk.injEq] at he
      obtain ⟨rfl, rfl⟩ := he
      intro k hk
      rcases List.mem_append.1 hk with hk | hk
      · exact frzG_sites x _ _ h1 k hk
      · exact frzGL_sites xs _ _ h2 k hk
    · cases he
end
mutual
theorem frzG_rep (hp : Hp F s μ w) (hp' : Hp F s' μ w) (hst : Step s μ w s' μ w) (hh : Sub h s) : ∀ (x y : AV) (ks : List Nat) (u : Value), frzG h ts x = some (y, ks) → (∀ k ∈ ks, s' (.h k) = fzn (s (.h k))) →
    Rep w μ (Mof F s μ) x u → Rep w μ (Mof F s' μ) y u
  | .sc v, y, ks, u, he, _, hr => by
    simp only [frzG, Option.some.injEq, Prod.mk.injEq] at he; obtain ⟨rfl, rfl⟩ := he
    exact Rep.mono hst.up _ _ hr
  | .vs n xs, y, ks, u, he, _, hr => by
    simp only [frzG, Option.some.injEq, Prod.mk.injEq] at he; obtain ⟨rfl, rfl⟩ := he
    exact Rep.mono hst.up _ _ hr
  | .hs k g off n z, y, ks, u, he, hk, hr => by
    simp only [frzG] at he
    split at he
    · simp only [Option.some.injEq, Prod.mk.injEq] at he; obtain ⟨rfl, rfl⟩ := he
      exact Rep.mono hst.up _ _ hr
    · exact frzE_rep hp hp' hst hh he hk hr
  | .hp k g off, y, ks, u, he, _, hr => by
    simp only [frzG] at he
    split at he
    · simp only [Option.some.injEq, Prod.mk.injEq] at he; obtain ⟨rfl, rfl⟩ := he
      exact Rep.mono hst.up _ _ hr
    · cases he
  | .vp xs, y, ks, u, he, _, _ => by simp [frzG] at he
  | .agg cs, y, ks, u, he, hk, hr => by
    simp only [frzG] at he
    split at he
    · rename_i l ks' h1
      simp only [Option.some.injEq, Prod.mk.injEq] at he
      obtain ⟨rfl, rfl⟩ := he
      simp only [Rep] at hr ⊢
      obtain ⟨vs, h2, h3⟩ := hr
      exact ⟨vs, h2, frzGL_rep hp hp' hst hh cs _ _ _ h1 hk h3⟩
    · cases he
  | .tup cs, y, ks, u, he, hk, hr => by
    simp only [frzG] at he
    split at he
    · rename_i l ks' h1
      simp only [Option.some.injEq, Prod.mk.injEq] at he
      obtain ⟨rfl, rfl⟩ := he
      simp only [Rep] at hr ⊢
      obtain ⟨vs, h2, h3⟩ := hr
      exact ⟨vs, h2, frzGL_rep hp hp' hst hh cs _ _ _ h1 hk h3⟩
    · cases he
  | .blk g st cs, y, ks, u, he, _, _ => by simp [frzG] at he
theorem frzGL_rep (hp : Hp F s μ w) (hp' : Hp F s' μ w) (hst : Step s μ w s' μ w) (hh : Sub h s) : ∀ (xs ys : List AV) (ks : List Nat) (us : List Value), frzGL h ts xs = some (ys, ks) → (∀ k ∈ ks, s' (.h k) = fzn (s (.h k))) →
    RepL w μ (Mof F s μ) xs us → RepL w μ (Mof F s' μ) ys us
  | [], ys, ks, us, he, _, hr => by
    simp only [frzGL, Option.some.injEq, Prod.mk.injEq] at he; obtain ⟨rfl, rfl⟩ := he
    cases us with
    | nil => simp [RepL]
    | cons u us => simp [RepL] at hr
  | x :: xs, ys, ks, us, he, hk, hr => by
    simp only [frzGL] at he
    split at he
    · rename_i y k1 ys' k2 h1 h2
      simp only [Option.some.injEq, Prod.mk.injEq] at he
      obtain ⟨rfl, rfl⟩ := he
      cases us with
      | nil => simp [RepL] at hr
      | cons u us =>
        simp only [RepL] at hr ⊢
        exact ⟨frzG_rep hp hp' hst hh x _ _ _ h1 (fun k h => hk k (by simp [h])) hr.1, frzGL_rep hp hp' hst hh xs _ _ _ h2 (fun k h => hk k (by simp [h])) hr.2⟩
    · cases he
end
theorem appH_many : ∀ (U : List (Nat × New)) (s : S), (U.map (·.1)).Nodup → appH s (U.map fun p => (p.1, .blk p.2.1 2 p.2.2.1)) = sMany s (fun k => U.lookup k)
  | [], s, _ => by
    funext l
    cases l <;> rfl
  | (k0, n0) :: U, s, hn => by
    simp only [List.map_cons, List.nodup_cons] at hn
    have ih := appH_many U (upd s (.h k0) (.blk n0.1 2 n0.2.1)) hn.2
    have e : appH s (((k0, n0) :: U).map fun p => (p.1, .blk p.2.1 2 p.2.2.1)) = appH (upd s (.h k0) (.blk n0.1 2 n0.2.1)) (U.map fun p => (p.1, .blk p.2.1 2 p.2.2.1)) := rfl
    rw [e, ih]
    funext l
    cases l with
    | t i => simp [sMany, upd]
    | h k =>
      simp only [sMany, List.lookup_cons]
      by_cases hk : k = k0
      · subst hk
        have : U.lookup k = none := by
          rw [List.lookup_eq_none_iff]
          intro q hq
          have hm : q.1 ∈ U.map (·.1) := List.mem_map_of_mem hq
          simp only [bne_iff_ne, ne_eq]
          intro e
          exact hn.1 (by rw [e]; exact hm)
        rw [this]
        simp [upd]
      · have hb : (k == k0) = false := by simpa using hk
        rw [hb]
        cases U.lookup k with
        | some n => rfl
        | none => simp [upd, hk]
end
def mkU : List (Nat × Nat) → List (Nat × List AV) → List (Nat × Nat) → List (Nat × New)
  | p :: ps, O :: Os, b :: bs => (p.1, (p.2, O.2, b.1, b.2)) :: mkU ps Os bs
  | _, _, _ => []
theorem mkU_of : ∀ {ps : List (Nat × Nat)} {Os : List (Nat × List AV)} {bs : List (Nat × Nat)} {i : Nat} {x : Nat × New}, (mkU ps Os bs)[i]? = some x →
    ∃ p O b, ps[i]? = some p ∧ Os[i]? = some O ∧ bs[i]? = some b ∧ x = (p.1, (p.2, O.2, b.1, b.2))
  | p :: ps, O :: Os, b :: bs, 0, x, h => by
    simp only [mkU, List.getElem?_cons_zero, Option.some.injEq] at h
    exact ⟨p, O, b, rfl, rfl, rfl, h.symm⟩
  | p :: ps, O :: Os, b :: bs, i + 1, x, h => by
    simp only [mkU, List.getElem?_cons_succ] at h ⊢
    exact mkU_of h
  | [], Os, bs, i, x, h => by simp [mkU] at h
  | _ :: _, [], bs, i, x, h => by simp [mkU] at h
  | _ :: _, _ :: _, [], i, x, h => by simp [mkU] at h
theorem mkU_get : ∀ {ps : List (Nat × Nat)} {Os : List (Nat × List AV)} {bs : List (Nat × Nat)} {i : Nat} {p : Nat × Nat} {O : Nat × List AV} {b : Nat × Nat}, ps[i]? = some p → Os[i]? = some O → bs[i]? = some b → (mkU ps Os bs)[i]? = some (p.1, (p.2, O.2, b.1, b.2))
  | p :: ps, O :: Os, b :: bs, 0, _, _, _, h1, h2, h3 => by
    simp only [List.getElem?_cons_zero, Option.some.injEq] at h1 h2 h3
    subst h1 h2 h3
    rfl
  | p :: ps, O :: Os, b :: bs, i + 1, _, _, _, h1, h2, h3 => by
    simp only [mkU, List.getElem?_cons_succ] at h1 h2 h3 ⊢
    exact mkU_get h1 h2 h3
  | [], Os, bs, i, _, _, _, h1, _, _ => by simp at h1
  | _ :: _, [], bs, i, _, _, _, _, h2, _ => by simp at h2
  | _ :: _, _ :: _, [], i, _, _, _, _, _, h3 => by simp at h3
theorem mkU_keys : ∀ {ps : List (Nat × Nat)} {Os : List (Nat × List AV)} {bs : List (Nat × Nat)}, ps.length = Os.length → bs.length = Os.length → (mkU ps Os bs).map (·.1) = ps.map (·.1)
  | [], Os, bs, _, _ => by simp [mkU]
  | p :: ps, O :: Os, b :: bs, h1, h2 => by
    simp only [mkU, List.map_cons]
    rw [mkU_keys (by simpa using h1) (by simpa using h2)]
  | _ :: _, [], bs, h1, _ => by simp at h1
  | _ :: _, _ :: _, [], _, h2 => by simp at h2
theorem lookup_get : ∀ {U : List (Nat × New)} {i k : Nat} {n : New}, (U.map (·.1)).Nodup → U[i]? = some (k, n) → U.lookup k = some n
  | (k0, n0) :: U, 0, k, n, _, h => by
    simp only [List.getElem?_cons_zero, Option.some.injEq, Prod.mk.injEq] at h
    obtain ⟨rfl, rfl⟩ := h
    simp [List.lookup_cons]
  | (k0, n0) :: U, i + 1, k, n, hn, h => by
    simp only [List.getElem?_cons_succ] at h
    simp only [List.map_cons, List.nodup_cons] at hn
    have hne : k ≠ k0 := by
      rintro rfl
      exact hn.1 (List.mem_map.2 ⟨_, List.mem_of_getElem? h, rfl⟩)
    rw [List.lookup_cons, show (k == k0) = false by simpa using hne]
    exact lookup_get hn.2 h
  | [], i, k, n, _, h => by simp at h
theorem lookup_of : ∀ {U : List (Nat × New)} {k : Nat} {n : New}, U.lookup k = some n → ∃ i : Nat, U[i]? = some (k, n)
  | (k0, n0) :: U, k, n, h => by
    rw [List.lookup_cons] at h
    by_cases hk : k = k0
    · subst hk
      simp at h
      exact ⟨0, by simp [h]⟩
    · rw [show (k == k0) = false by simpa using hk] at h
      obtain ⟨i, hi⟩ := lookup_of h
      exact ⟨i + 1, by simpa using hi⟩
  | [], k, n, h => by simp at h
theorem lentG {F : Nat → Prop} {s : S} {μ : Mu} {w w' : World} (hp : Hp F s μ w) {ps : List (Nat × Nat)} {Os : List (Nat × List AV)} {Ls : List (List AV)} {bs bs' : List (Nat × Nat)}
    (lp : ps.length = Os.length) (lb : bs'.length = Os.length) (ll : bs.length = Ls.length) (lo : Ls.length ≤ Os.length) (nd : (ps.map (·.1)).Nodup) (ap : apartB bs') (pos : ∀ (i : Nat) (O : Nat × List AV), Os[i]? = some O → 1 ≤ O.1)
    (hs : ∀ (i : Nat) (p : Nat × Nat) (O : Nat × List AV), ps[i]? = some p → Os[i]? = some O → ∃ g st cs, s (.h p.1) = .blk g st cs ∧
      ((∃ b, bs[i]? = some b ∧ Ls[i]? = some cs ∧ st = 2 ∧ μ p.1 g = some (b.1, cs.length, b.2) ∧ p.2 = g + (O.1 - 1)) ∨ (bs.length ≤ i ∧ p.2 = g + 1)))
    (ho : ∀ (i : Nat) (b' : Nat × Nat) (O : Nat × List AV), bs'[i]? = some b' → Os[i]? = some O → b'.1 < w'.heap.size ∧ (w.heap.size ≤ b'.1 ∨ ∃ b ∈ bs, b'.1 = b.1) ∧
      (O.1 = 1 → ∀ b L, bs[i]? = some b → Ls[i]? = some L → b' = b ∧ O.2.length = L.length) ∧ Holds w' (MB (fun b => Mof F s μ b ∧ ∀ p ∈ bs, p.1 ≠ b) bs') b'.1 b'.2 O.2)
    (hext : Ext (fun b => ∃ p ∈ bs, p.1 = b) w w') :
    Hp F (sMany s fun k => (mkU ps Os bs').lookup k) (μMany μ fun k => (mkU ps Os bs').lookup k) w' ∧ Step s μ w (sMany s fun k => (mkU ps Os bs').lookup k) (μMany μ fun k => (mkU ps Os bs').lookup k) w' ∧
      (∀ b, Mof F (sMany s fun k => (mkU ps Os bs').lookup k) (μMany μ fun k => (mkU ps Os bs').lookup k) b → MB (fun b => Mof F s μ b ∧ ∀ p ∈ bs, p.1 ≠ b) bs' b) ∧
      ∀ (i : Nat) (p : Nat × Nat) (O : Nat × List AV) (b' : Nat × Nat), ps[i]? = some p → Os[i]? = some O → bs'[i]? = some b' → (μMany μ fun k => (mkU ps Os bs').lookup k) p.1 p.2 = some (b'.1, O.2.length, b'.2) := by
  have ndU : ((mkU ps Os bs').map (·.1)).Nodup := by rw [mkU_keys lp lb]; exact nd
  have get : ∀ (i : Nat) (p : Nat × Nat) (O : Nat × List AV) (b' : Nat × Nat), ps[i]? = some p → Os[i]? = some O → bs'[i]? = some b' → (mkU ps Os bs').lookup p.1 = some (p.2, O.2, b'.1, b'.2) := fun i p O b' h1 h2 h3 => lookup_get ndU (mkU_get h1 h2 h3)
  have of : ∀ (k : Nat) (n : New), (mkU ps Os bs').lookup k = some n → ∃ (i : Nat) (p : Nat × Nat) (O : Nat × List AV) (b' : Nat × Nat), ps[i]? = some p ∧ Os[i]? = some O ∧ bs'[i]? = some b' ∧ k = p.1 ∧ n = (p.2, O.2, b'.1, b'.2) := by
    intro k n h
    obtain ⟨i, hi⟩ := lookup_of h
    obtain ⟨p, O, b', h1, h2, h3, h4⟩ := mkU_of hi
    simp only [Prod.mk.injEq] at h4
    exact ⟨i, p, O, b', h1, h2, h3, h4.1, by simp [h4.2]⟩
  have lentOf : ∀ (b : Nat × Nat), b ∈ bs → ∃ (i : Nat) (p : Nat × Nat) (O : Nat × List AV) (b' : Nat × Nat) (g : Nat) (cs : List AV), ps[i]? = some p ∧ Os[i]? = some O ∧ bs'[i]? = some b' ∧ s (.h p.1) = .blk g 2 cs ∧ μ p.1 g = some (b.1, cs.length, b.2) := by
    intro b hb
    obtain ⟨i, hi⟩ := List.getElem?_of_mem hb
    have hlt := (List.getElem?_eq_some_iff.1 hi).1
    have h1 : ps[i]? = some ps[i] := List.getElem?_eq_getElem (by omega)
    have h2 : Os[i]? = some Os[i] := List.getElem?_eq_getElem (by omega)
    have h3 : bs'[i]? = some bs'[i] := List.getElem?_eq_getElem (by omega)
    obtain ⟨g, st, cs, a1, a2⟩ := hs i _ _ h1 h2
    rcases a2 with ⟨b2, c1, _, rfl, c2, _⟩ | ⟨c1, _⟩
    · rw [hi] at c1
      cases c1
      exact ⟨i, _, _, _, g, cs, h1, h2, h3, a1, c2⟩
    · omega
  have hsub : ∀ b, Mof F (sMany s fun k => (mkU ps Os bs').lookup k) (μMany μ fun k => (mkU ps Os bs').lookup k) b → MB (fun b => Mof F s μ b ∧ ∀ p ∈ bs, p.1 ≠ b) bs' b := by
    rintro b (hF | ⟨k, g, cs, L, A, h1, h2⟩)
    · refine .inl ⟨.inl hF, fun p hpm e => ?_⟩
      obtain ⟨i, p', O, b', g, cs, _, _, _, _, q⟩ := lentOf p hpm
      exact (hp.old _ _ _ _ _ q).2 (by rw [e]; exact hF)
    · cases hk : (mkU ps Os bs').lookup k with
      | some n =>
        obtain ⟨i, p, O, b', e1, e2, e3, rfl, rfl⟩ := of k n hk
        simp only [sMany, hk] at h1
        cases h1
        simp only [μMany, hk, if_true, Option.some.injEq, Prod.mk.injEq] at h2
        exact .inr ⟨b', List.mem_of_getElem? e3, h2.1⟩
      | none =>
        simp only [sMany, hk] at h1
        simp only [μMany, hk] at h2
        refine .inl ⟨.inr ⟨k, g, cs, L, A, h1, h2⟩, fun p hpm e => ?_⟩
        obtain ⟨i, p', O, b', g2, cs2, e1, e2, e3, e4, e5⟩ := lentOf p hpm
        have := hp.inj k g 2 cs p'.1 g2 2 cs2 b _ _ _ _ h1 (by decide) e4 (by decide) h2 (by rw [e5, e])
        rw [this, get i p' O b' e1 e2 e3] at hk
        cases hk
  obtain ⟨q1, q2⟩ := hp.many (w' := w') (fun k => (mkU ps Os bs').lookup k) (fun k n hk => by
      obtain ⟨i, p, O, b', e1, e2, e3, rfl, rfl⟩ := of k n hk
      obtain ⟨g, st, cs, a1, a2⟩ := hs i p O e1 e2
      obtain ⟨o1, o2, o3, _⟩ := ho i b' O e3 e2
      have hpO := pos i O e2
      refine ⟨g, st, cs, a1, ?_⟩
      rcases a2 with ⟨b, c1, c2, c3, c4, c5⟩ | ⟨c1, c2⟩
      · refine ⟨by show g ≤ p.2; omega, fun e => ?_, ?_, o1⟩
        · have e : p.2 = g := e
          obtain ⟨d1, d2⟩ := o3 (by omega) b cs c1 c2
          show μ p.1 g = some (b'.1, O.2.length, b'.2)
          rw [d1, d2, c4]
        · rcases o2 with o2 | ⟨b2, d1, d2⟩
          · exact .inl o2
          · obtain ⟨i2, p2, O2, b3, g2, cs2, f1, f2, f3, f4, f5⟩ := lentOf b2 d1
            exact .inr ⟨p2.1, _, g2, cs2, _, _, get i2 p2 O2 b3 f1 f2 f3, f4, by show μ p2.1 g2 = some (b'.1, _, _); rw [d2, f5]⟩
      · refine ⟨by show g ≤ p.2; omega, fun e => ?_, ?_, o1⟩
        · have e : p.2 = g := e
          omega
        · rcases o2 with o2 | ⟨b2, d1, d2⟩
          · exact .inl o2
          · obtain ⟨i2, p2, O2, b3, g2, cs2, f1, f2, f3, f4, f5⟩ := lentOf b2 d1
            exact .inr ⟨p2.1, _, g2, cs2, _, _, get i2 p2 O2 b3 f1 f2 f3, f4, by show μ p2.1 g2 = some (b'.1, _, _); rw [d2, f5]⟩)
    (fun k k2 n n2 hk hk2 e => by
      obtain ⟨i, p, O, b', e1, e2, e3, rfl, rfl⟩ := of k n hk
      obtain ⟨j, p', O', b'', f1, f2, f3, rfl, rfl⟩ := of k2 n2 hk2
      have := ap i j b' b'' e3 f3 e
      subst this
      rw [e1] at f1
      cases f1
      rfl)
    hext.os hext.tape hext.output hext.size
    (fun b hb hn => hext.block b hb fun ⟨p, hpm, e⟩ => by
      obtain ⟨i, p', O, b', g2, cs2, e1, e2, e3, e4, e5⟩ := lentOf p hpm
      exact hn ⟨p'.1, _, g2, cs2, _, _, get i p' O b' e1 e2 e3, e4, by rw [e5, e]⟩)
    (fun up k n hk => by
      obtain ⟨i, p, O, b', e1, e2, e3, rfl, rfl⟩ := of k n hk
      obtain ⟨_, _, _, arr, e, f, a1, a2, a3, a4, a5⟩ := ho i b' O e3 e2
      refine ⟨arr, e, f, a1, a2, a3, a4, fun i x hx => ?_⟩
      obtain ⟨h1, v, h2, h3⟩ := a5 i x hx
      exact ⟨AV.one_of_fz h1, v, h2, Rep.ghost hsub x v (AV.pure_of_fz h1) h3⟩)
  refine ⟨q1, q2, hsub, fun i p O b' h1 h2 h3 => ?_⟩
  simp [μMany, get i p O b' h1 h2 h3]
end Go.Ab
end
section
namespace Go.Ab
open Go
mutual
def AV.bare : AV → Bool
  | .sc _ => true
  | .vs _ xs => xs.isEmpty
  | .hs .. => true
  | .hp .. => true
  | .agg cs => AV.bareL cs
  | .tup cs => AV.bareL cs
  | .vp _ => false
  | .blk .. => false
def AV.bareL : List AV → Bool
  | [] => true
  | x :: xs => AV.bare x && AV.bareL xs
end
section
variable {w : World} {μ : Mu} {M M' : Nat → Prop}
mutual
theorem Rep.bare : ∀ (x : AV) (v : Value), x.bare = true → Rep w μ M x v → Rep w μ M' x v
  | .sc u, v, _, h => by simpa [Rep] using h
  | .vs n xs, v, hb, h => by
    simp only [AV.bare, List.isEmpty_iff] at hb
    simp only [Rep] at h ⊢
    obtain ⟨a, c, h1, h2, _⟩ := h
    exact ⟨a, c, h1, h2, .inl hb⟩
  | .hs k g o n z, v, _, h => by simpa [Rep] using h
  | .hp k g o, v, _, h => by simpa [Rep] using h
  | .agg cs, v, hb, h => by
    simp only [Rep, AV.bare] at h hb ⊢
    obtain ⟨vs, h1, h2⟩ := h
    exact ⟨vs, h1, RepL.bare cs _ hb h2⟩
  | .tup cs, v, hb, h => by
    simp only [Rep, AV.bare] at h hb ⊢
    obtain ⟨vs, h1, h2⟩ := h
    exact ⟨vs, h1, RepL.bare cs _ hb h2⟩
  | .vp xs, v, hb, h => by simp [AV.bare] at hb
  | .blk .., v, hb, h => by simp [AV.bare] at hb
theorem RepL.bare : ∀ (xs : List AV) (vs : List Value), AV.bareL xs = true → RepL w μ M xs vs → RepL w μ M' xs vs
  | [], vs, _, h => by
    cases vs with
    | nil => simp [RepL]
    | cons v vs => simp [RepL] at h
  | x :: xs, vs, hb, h => by
    cases vs with
    | nil => simp [RepL] at h
    | cons v vs =>
      simp only [RepL, AV.bareL, Bool.and_eq_true] at h hb ⊢
      exact ⟨Rep.bare x v hb.1 h.1, RepL.bare xs vs hb.2 h.2⟩
end
theorem Holds.bare {c A : Nat} {L : List AV} (hb : L.all AV.bare = true) (h : Holds w M c A L) : Holds w M' c A L := by
  obtain ⟨arr, e, f, h1, h2, h3, h4, h5⟩ := h
  refine ⟨arr, e, f, h1, h2, h3, h4, fun i x hx => ?_⟩
  obtain ⟨h6, v, h7, h8⟩ := h5 i x hx
  simp only [List.all_eq_true] at hb
  exact ⟨h6, v, h7, Rep.bare x v (hb x (List.mem_of_getElem? hx)) h8⟩
end
def rowsIn (h : Nat → AV) : List (Nat × Nat) → List (List AV) → Prop
  | t :: ts, L :: Ls => h t.1 = .blk t.2 2 L ∧ L.all AV.fz = true ∧ rowsIn h ts Ls
  | [], [] => True
  | _, _ => False
def pOf (h : Nat → AV) (n : Nat) : List (Nat × Nat) → List (Nat × List AV) → List (Nat × Nat)
  | t :: ts, O :: Os => (t.1, t.2 + (O.1 - 1)) :: pOf h n ts Os
  | [], O :: Os => (n, genOf (h n) + 1) :: pOf h (n + 3000000) [] Os
  | _, [] => []
def upsOf : List (Nat × Nat) → List (Nat × List AV) → List (Nat × AV)
  | p :: ps, O :: Os => (p.1, .blk p.2 2 O.2) :: upsOf ps Os
  | _, _ => []
def CallG (P : Program) (B : Nat) (dst : Option Tmp) (s : S) (h : Nat → AV) (f : FuncId) (args : List AV) (v : AV) (ups : List (Nat × AV)) : Prop :=
  ∃ d ts as ks as' Ls Os r q j, dst = some d ∧ rowsIn h ts Ls ∧ Os.length + j ≤ Ls.length + 2 ∧ ((pOf h (B + d + 3000000 * j) ts Os).map (·.1)).Nodup ∧ frzGL h (ts.map (·.1)) args = some (as, ks) ∧
    (ks.all fun k => !(ts.map (·.1)).contains k) = true ∧ AV.kpL (okL ts) as = true ∧ WkL (AV.renL (asg ts (nmI 0 ts)) as) as' ∧ SpecG P f as' Ls r Os ∧ v = r.ren (asg (nmO 0 Os) (pOf h (B + d + 3000000 * j) ts Os)) ∧
    (q = true → r.bare = true ∧ Os.all (fun O => O.2.all AV.bare) = true) ∧ ups = (if q = true then [] else ks.map fun k => (k, fzn (s (.h k)))) ++ upsOf (pOf h (B + d + 3000000 * j) ts Os) Os
theorem pOf_len (h : Nat → AV) : ∀ (ts : List (Nat × Nat)) (Os : List (Nat × List AV)) (n : Nat), (pOf h n ts Os).length = Os.length
  | _ :: ts, _ :: Os, n => by simp [pOf, pOf_len h ts Os n]
  | [], _ :: Os, n => by simp [pOf, pOf_len h [] Os _]
  | [], [], n => rfl
  | _ :: _, [], n => rfl
theorem pOf_lent (h : Nat → AV) {n : Nat} : ∀ {ts : List (Nat × Nat)} {Os : List (Nat × List AV)} {i : Nat} {t : Nat × Nat} {O : Nat × List AV}, ts[i]? = some t → Os[i]? = some O → (pOf h n ts Os)[i]? = some (t.1, t.2 + (O.1 - 1))
  | _ :: ts, _ :: Os, 0, t, O, h1, h2 => by
    simp only [List.getElem?_cons_zero, Option.some.injEq] at h1 h2
    subst h1 h2
    rfl
  | _ :: ts, _ :: Os, i + 1, t, O, h1, h2 => by
    simp only [pOf, List.getElem?_cons_succ] at h1 h2 ⊢
    exact pOf_lent h h1 h2
  | [], _, i, _, _, h1, _ => by simp at h1
  | _ :: _, [], i, _, _, _, h2 => by simp at h2
theorem pOf_new (h : Nat → AV) : ∀ {ts : List (Nat × Nat)} {Os : List (Nat × List AV)} {n i : Nat} {O : Nat × List AV}, ts.length ≤ i → Os[i]? = some O → (pOf h n ts Os)[i]? = some (n + 3000000 * (i - ts.length), genOf (h (n + 3000000 * (i - ts.length))) + 1)
  | t :: ts, _ :: Os, n, 0, _, h1, _ => by simp at h1
  | t :: ts, O :: Os, n, i + 1, O', h1, h2 => by
    simp only [pOf, List.getElem?_cons_succ, List.length_cons] at h1 h2 ⊢
    rw [pOf_new h (by omega) h2, show i + 1 - (ts.length + 1) = i - ts.length by omega]
  | [], O :: Os, n, 0, _, _, _ => by simp [pOf]
  | [], O :: Os, n, i + 1, O', h1, h2 => by
    simp only [pOf, List.getElem?_cons_succ, List.length_nil] at h1 h2 ⊢
    rw [pOf_new h (by simp) h2, List.length_nil, show n + 3000000 + 3000000 * (i - 0) = n + 3000000 * (i + 1 - 0) by omega]
  | [], [], n, i, _, _, h2 => by simp at h2
  | _ :: _, [], n, i, _, _, h2 => by simp at h2
theorem upsOf_mkU : ∀ {ps : List (Nat × Nat)} {Os : List (Nat × List AV)} {bs : List (Nat × Nat)}, bs.length = Os.length → upsOf ps Os = (mkU ps Os bs).map fun p => (p.1, .blk p.2.1 2 p.2.2.1)
  | p :: ps, O :: Os, b :: bs, h => by
    simp only [upsOf, mkU, List.map_cons]
    rw [upsOf_mkU (by simpa using h)]
  | [], _, _, _ => by simp [upsOf, mkU]
  | _ :: _, [], _, _ => by simp [upsOf, mkU]
  | _ :: _, _ :: _, [], h => by simp at h
section
variable {P : Program} {F : Nat → Prop} {s : S} {μ : Mu} {a : Act} {w : World} {B : Nat} {h : Nat → AV}
theorem rowsIn_len : ∀ {ts : List (Nat × Nat)} {Ls : List (List AV)}, rowsIn h ts Ls → ts.length = Ls.length
  | _ :: ts, _ :: Ls, hr => by simp [rowsIn_len hr.2.2]
  | [], [], _ => rfl
  | [], _ :: _, hr => hr.elim
  | _ :: _, [], hr => hr.elim
theorem rowsIn_get : ∀ {ts : List (Nat × Nat)} {Ls : List (List AV)}, rowsIn h ts Ls → ∀ (i : Nat) (t : Nat × Nat) (L : List AV), ts[i]? = some t → Ls[i]? = some L → h t.1 = .blk t.2 2 L ∧ L.all AV.fz = true
  | _ :: ts, _ :: Ls, hr, 0, t, L, h1, h2 => by
    simp only [List.getElem?_cons_zero, Option.some.injEq] at h1 h2
    subst h1 h2
    exact ⟨hr.1, hr.2.1⟩
  | _ :: ts, _ :: Ls, hr, i + 1, t, L, h1, h2 => rowsIn_get hr.2.2 i t L (by simpa using h1) (by simpa using h2)
  | [], [], _, i, _, _, h1, _ => by simp at h1
  | [], _ :: _, hr, _, _, _, _, _ => hr.elim
  | _ :: _, [], hr, _, _, _, _, _ => hr.elim
theorem rows_bs (hp : Hp F s μ w) : ∀ (ts : List (Nat × Nat)) (Ls : List (List AV)), ts.length = Ls.length → (∀ (i : Nat) (t : Nat × Nat) (L : List AV), ts[i]? = some t → Ls[i]? = some L → s (.h t.1) = .blk t.2 2 L ∧ L.all AV.fz = true) →
    ∃ bs : List (Nat × Nat), bs.length = Ls.length ∧ ∀ (i : Nat) (t : Nat × Nat) (L : List AV) (b : Nat × Nat), ts[i]? = some t → Ls[i]? = some L → bs[i]? = some b → μ t.1 t.2 = some (b.1, L.length, b.2) ∧ Holds w (Mof F s μ) b.1 b.2 L
  | [], [], _, _ => ⟨[], rfl, fun i t L b h1 => by simp at h1⟩
  | t :: ts, L :: Ls, hl, hg => by
    obtain ⟨bs, h1, h2⟩ := rows_bs hp ts Ls (by simpa using hl) fun i t L a b => hg (i + 1) t L (by simpa using a) (by simpa using b)
    obtain ⟨g1, g2⟩ := hg 0 t L rfl rfl
    obtain ⟨c, A, arr, e, f, r1, r2, r3, r4, r5, r6⟩ := hp.row _ _ _ _ g1 (by decide)
    refine ⟨(c, A) :: bs, by simp [h1], fun i t' L' b' a1 a2 a3 => ?_⟩
    cases i with
    | zero =>
      simp only [List.getElem?_cons_zero, Option.some.injEq] at a1 a2 a3
      subst a1 a2 a3
      refine ⟨r1, arr, e, f, r2, r3, r4, r5, fun i x hx => ?_⟩
      have hfz : x.fz = true := by simp only [List.all_eq_true] at g2; exact g2 x (List.mem_of_getElem? hx)
      obtain ⟨_, v, j2, j3⟩ := r6 i x hx
      exact ⟨hfz, v, j2, Rep.ghost (fun _ h => h) x v (AV.pure_of_fz hfz) j3⟩
    | succ i => exact h2 i t' L' b' (by simpa using a1) (by simpa using a2) (by simpa using a3)
  | [], _ :: _, hl, _ => by simp at hl
  | _ :: _, [], hl, _ => by simp at hl
theorem Holds.ghost {M M' : Nat → Prop} {c A : Nat} {L : List AV} (hM : ∀ b, M' b → M b) (h : Holds w M c A L) : Holds w M' c A L := by
  obtain ⟨arr, e, f, h1, h2, h3, h4, h5⟩ := h
  refine ⟨arr, e, f, h1, h2, h3, h4, fun i x hx => ?_⟩
  obtain ⟨h6, v, h7, h8⟩ := h5 i x hx
  exact ⟨h6, v, h7, Rep.ghost hM x v (AV.pure_of_fz h6) h8⟩
theorem nodup_inj {α : Type} {l : List α} (hn : l.Nodup) {i j : Nat} {x : α} (h1 : l[i]? = some x) (h2 : l[j]? = some x) : i = j := by
  obtain ⟨a1, a2⟩ := List.getElem?_eq_some_iff.1 h1
  obtain ⟨b1, b2⟩ := List.getElem?_eq_some_iff.1 h2
  have := List.pairwise_iff_getElem.1 hn
  rcases Nat.lt_trichotomy i j with h | h | h
  · exact absurd (a2.trans b2.symm) (this i j a1 b1 h)
  · exact h
  · exact absurd (b2.trans a2.symm) (this j i b1 a1 h)
def Own2 (B : Nat) (dst : Option Tmp) (h : Nat → AV) (s : S) : Prop := ∀ d, dst = some d → h (B + d + 3000000) = s (.h (B + d + 3000000))
theorem CallG.run {nt : Nat} {o : Oper} {f : FuncId} {args : Array Operand} {tys : Array TypeId} (ho : o.op = .call ⟨.value (.func f), args, tys⟩) {v : AV} {ups : List (Nat × AV)} (hsub : Sub h s) (hO : Own B o.dst h s) (hO2 : Own2 B o.dst h s)
    (hst : CallG P B o.dst s h f (args.toList.map (ev s)) v ups) (sim : Sim F s μ a w) (hnt : a.tmps.size = nt) (hdst : ∀ i, o.dst = some i → i < a.tmps.size) {K : Act → World → Prop} {Q : Exit → Act → World → Prop}
    (hK : ∀ a' w' μ', Sim F (put (appH s ups) o.dst v) μ' a' w' → Step s μ w (put (appH s ups) o.dst v) μ' w' → a'.tmps.size = nt → K a' w') : o.wp P a w K Q := by
  obtain ⟨d, ts, as, ks, as', Ls, Os, r, q, j0, hod, h1, h2, h3, h4, h5, h6, h7, h8, rfl, h9, rfl⟩ := hst
  have hput : ∀ u, (a.put o.dst u).tmps.size = nt := by
    intro u
    cases ho : o.dst <;> simp [Act.put, hnt]
  have hks : ∀ k ∈ ks, ∃ g st cs, s (.h k) = .blk g st cs ∧ st ≠ 0 := fun k hk => by
    obtain ⟨g, st, cs, hb, hne⟩ := frzGL_sites _ _ _ h4 k hk
    exact ⟨g, st, cs, hsub _ _ _ _ hb, hne⟩
  obtain ⟨f1, f2, f3⟩ := freeze_all ks s sim.hp hks
  have hkn : ∀ t ∈ ts, t.1 ∉ ks := fun t ht hk => by
    simp only [List.all_eq_true] at h5
    have := h5 _ hk
    simp only [Bool.not_eq_eq_eq_not, Bool.not_true, List.contains_eq_mem, decide_eq_false_iff_not] at this
    exact this (List.mem_map_of_mem ht)
  have hrl := rowsIn_len h1
  have hrg := rowsIn_get h1
  have hargs : RepL w μ (Mof F s μ) (args.toList.map (ev s)) (args.toList.map a.eval) := RepL.of_get (by simp) fun i x u hx hu => by
    rw [List.getElem?_map] at hx hu
    cases hi : args.toList[i]? with
    | none => rw [hi] at hx; simp at hx
    | some p => rw [hi] at hx hu; simp at hx hu; subst hx hu; exact ev_rep sim p
  have hfz := frzGL_rep sim.hp f1 f2 hsub _ _ _ _ h4 (fun k hk => by rw [f3, if_pos hk]) hargs
  have hst0 : ∀ t ∈ ts, ∀ g st cs, h t.1 = .blk g st cs → s (.h t.1) = .blk g st cs := fun t _ g st cs e => hsub _ _ _ _ e
  generalize hsf : appH s (ks.map fun k => (k, fzn (s (.h k)))) = sf at *
  have hsk : ∀ (i : Nat) (t : Nat × Nat) (L : List AV), ts[i]? = some t → Ls[i]? = some L → sf (.h t.1) = .blk t.2 2 L ∧ L.all AV.fz = true := fun i t L a1 a2 => by
    obtain ⟨b1, b2⟩ := hrg i t L a1 a2
    rw [f3, if_neg (hkn t (List.mem_of_getElem? a1))]
    exact ⟨hsub _ _ _ _ b1, b2⟩
  obtain ⟨bs, lb, hbs⟩ := rows_bs f1 ts Ls hrl hsk
  have getT : ∀ (i : Nat) (b : Nat × Nat), bs[i]? = some b → ∃ t L, ts[i]? = some t ∧ Ls[i]? = some L := fun i b hb => by
    have hlt := (List.getElem?_eq_some_iff.1 hb).1
    exact ⟨ts[i], Ls[i], List.getElem?_eq_getElem (by omega), List.getElem?_eq_getElem (by omega)⟩
  have lp : (pOf h (B + d + 3000000 * j0) ts Os).length = Os.length := pOf_len _ _ _ _
  have hLO := h8.len
  have hap : apartB bs := by
    intro i j b b' e1 e2 e3
    obtain ⟨t, L, a1, a2⟩ := getT i b e1
    obtain ⟨t', L', c1, c2⟩ := getT j b' e2
    have m1 := (hbs i t L b a1 a2 e1).1
    have m2 := (hbs j t' L' b' c1 c2 e2).1
    have hh := f1.inj t.1 t.2 2 L t'.1 t'.2 2 L' b.1 _ _ _ _ (hsk i t L a1 a2).1 (by decide) (hsk j t' L' c1 c2).1 (by decide) m1 (by rw [m2, e3])
    have o1 := pOf_lent h (n := B + d + 3000000 * j0) a1 (O := Os[i]'(by have := (List.getElem?_eq_some_iff.1 e1).1; omega)) (List.getElem?_eq_getElem _)
    have o2 := pOf_lent h (n := B + d + 3000000 * j0) c1 (O := Os[j]'(by have := (List.getElem?_eq_some_iff.1 e2).1; omega)) (List.getElem?_eq_getElem _)
    have p1 : ((pOf h (B + d + 3000000 * j0) ts Os).map (·.1))[i]? = some t.1 := by rw [List.getElem?_map, o1]; rfl
    have p2 : ((pOf h (B + d + 3000000 * j0) ts Os).map (·.1))[j]? = some t'.1 := by rw [List.getElem?_map, o2]; rfl
    exact nodup_inj h3 p1 (hh ▸ p2)
  have hMc : ∀ b, MB (fun b => Mof F sf μ b ∧ ∀ p ∈ bs, p.1 ≠ b) bs b → Mof F sf μ b := by
    rintro b (hb | ⟨p, hp, rfl⟩)
    · exact hb.1
    · obtain ⟨i, hi⟩ := List.getElem?_of_mem hp
      obtain ⟨t, L, a1, a2⟩ := getT i p hi
      exact .inr ⟨t.1, t.2, L, _, _, (hsk i t L a1 a2).1, (hbs i t L p a1 a2 hi).1⟩
  have hr0 : RepL w (μI Ls bs) (MB (fun b => Mof F sf μ b ∧ ∀ p ∈ bs, p.1 ≠ b) bs) as' (args.toList.map a.eval) := h7 _ _ _ _ (RepL.ren hMc (fun k g e hok he => by
      obtain ⟨i, e1, e2⟩ := okL_asg hok (l' := nmI 0 ts) (nmI_len ts 0).symm
      have hlt := (List.getElem?_eq_some_iff.1 e1).1
      have e3 : Ls[i]? = some Ls[i] := List.getElem?_eq_getElem (by omega)
      have e4 : bs[i]? = some bs[i] := List.getElem?_eq_getElem (by omega)
      have := nmI_get e2
      rw [this]
      have hm := (hbs i _ _ _ e1 e3 e4).1
      simp only at hm
      rw [he] at hm
      simp only [μI, Nat.add_zero, Nat.le_add_right, true_and, if_true, Nat.add_sub_cancel_left, e3, e4]
      exact hm.symm) _ _ h6 hfz)
  have hcalls := h8.calls (fun b => Mof F sf μ b ∧ ∀ p ∈ bs, p.1 ≠ b) w _ bs (fun b hb => by
    rcases hb.1 with hc | ⟨k, g, cs, L, A, _, hc⟩
    · exact f1.fb b hc
    · exact (f1.old _ _ _ _ _ hc).1) lb hap (fun i b L e1 e2 => by
      obtain ⟨t, L', a1, a2⟩ := getT i b e1
      rw [e2] at a2
      cases a2
      obtain ⟨m1, m2⟩ := hbs i t L b a1 e2 e1
      exact ⟨(f1.old _ _ _ _ _ m1).1, fun hh => hh.2 b (List.mem_of_getElem? e1) rfl, m2.ghost hMc⟩) ((sim.tb.step f2).weaken hMc) hr0
  have hrun : (execOp a.eval o).run P w = .ok (.enter f (args.toList.map a.eval).toArray) w := by
    have := h8.enter (args.map a.eval) w
    have e1 : (args.toList.map a.eval).toArray = args.map a.eval := by rw [← Array.toList_map, Array.toArray_toList]
    rw [e1]
    simp [execOp, ho, resolve, Act.eval, Deferred.ofValue, invoke, this]
  unfold Oper.wp
  rw [hrun, Oper.upon_enter]
  refine Calls.mono hcalls fun e w' he => ?_
  cases e with
  | panicked ch => exact he.elim
  | outgrown => exact he.elim
  | returned u =>
    obtain ⟨bs', lb', ap', ho', hr', hext⟩ := he
    have fin : ∀ (s1 : S), Hp F s1 μ w → Step s μ w s1 μ w → (∀ i, s1 (.t i) = s (.t i)) → (∀ k, (∀ t ∈ ts, t.1 = k → s1 (.h k) = s (.h k)) ∧ ∃ st cs, s1 (.h k) = .blk (genOf (s (.h k))) st cs) →
        (∀ (c A : Nat) (O : Nat × List AV), O ∈ Os → Holds w' (MB (fun b => Mof F sf μ b ∧ ∀ p ∈ bs, p.1 ≠ b) bs') c A O.2 → Holds w' (MB (fun b => Mof F s1 μ b ∧ ∀ p ∈ bs, p.1 ≠ b) bs') c A O.2) →
        Rep w' (μO Os bs') (MB (fun b => Mof F s1 μ b ∧ ∀ p ∈ bs, p.1 ≠ b) bs') r u →
        appH s ((if q = true then [] else ks.map fun k => (k, fzn (s (.h k)))) ++ upsOf (pOf h (B + d + 3000000 * j0) ts Os) Os) = appH s1 (upsOf (pOf h (B + d + 3000000 * j0) ts Os) Os) → K (a.put o.dst u) w' := by
      intro s1 hp1 st1 t1 k1 cv hr1 e1
      have hnd : ((mkU (pOf h (B + d + 3000000 * j0) ts Os) Os bs').map (·.1)).Nodup := by rw [mkU_keys lp lb']; exact h3
      obtain ⟨g1, g2, g3, g4⟩ := lentG hp1 lp lb' lb hLO h3 ap' h8.pos (fun i p O a1 a2 => by
          have hlt := (List.getElem?_eq_some_iff.1 a2).1
          rcases Nat.lt_or_ge i ts.length with hi | hi
          · have b1 : ts[i]? = some ts[i] := List.getElem?_eq_getElem hi
            have b2 : Ls[i]? = some Ls[i] := List.getElem?_eq_getElem (by omega)
            have b3 : bs[i]? = some bs[i] := List.getElem?_eq_getElem (by omega)
            have b4 := pOf_lent h (n := B + d + 3000000 * j0) b1 a2
            rw [a1] at b4
            cases b4
            have c1 := hrg i _ _ b1 b2
            have c2 := hsub _ _ _ _ c1.1
            refine ⟨ts[i].2, 2, Ls[i], ?_, .inl ⟨bs[i], b3, b2, rfl, (hbs i _ _ _ b1 b2 b3).1, rfl⟩⟩
            rw [← c2]
            exact (k1 _).1 _ (List.getElem_mem hi) rfl
          · have b4 := pOf_new h (n := B + d + 3000000 * j0) hi a2
            rw [a1] at b4
            cases b4
            obtain ⟨st, cs, c1⟩ := (k1 (B + d + 3000000 * j0 + 3000000 * (i - ts.length))).2
            refine ⟨_, st, cs, c1, .inr ⟨by omega, ?_⟩⟩
            have : B + d + 3000000 * j0 + 3000000 * (i - ts.length) = B + d ∨ B + d + 3000000 * j0 + 3000000 * (i - ts.length) = B + d + 3000000 := by omega
            rcases this with e | e
            · rw [e, hO d hod]
            · rw [e, hO2 d hod]) (fun i b' O a1 a2 => by
          obtain ⟨c1, c2, c3, c4⟩ := ho' i b' O a1 a2
          exact ⟨c1, c2, c3, cv _ _ O (List.mem_of_getElem? a2) c4⟩) hext
      have hrv := Rep.ren (μ' := μMany μ fun k => (mkU (pOf h (B + d + 3000000 * j0) ts Os) Os bs').lookup k) (σ := asg (nmO 0 Os) (pOf h (B + d + 3000000 * j0) ts Os)) g3 (fun k g e hok he => by
        obtain ⟨i, e1, e2⟩ := okL_asg hok (l' := pOf h (B + d + 3000000 * j0) ts Os) (by rw [nmO_len, lp])
        obtain ⟨O, e3, e4⟩ := nmO_get e1
        cases e4
        have hlt := (List.getElem?_eq_some_iff.1 e3).1
        have e5 : bs'[i]? = some bs'[i] := List.getElem?_eq_getElem (by omega)
        simp only [μO, Nat.add_zero, Nat.le_add_right, if_true, Nat.add_sub_cancel_left, e3, e5] at he
        rw [g4 i _ O _ e2 e3 e5]
        exact he) _ _ h8.kp hr1
      have hres := Sim.put sim (st1.trans g2) (fun i => by show s1 (.t i) = s (.t i); exact t1 i) g1 o.dst hdst hrv
      refine hK _ _ (μMany μ fun k => (mkU (pOf h (B + d + 3000000 * j0) ts Os) Os bs').lookup k) ?_ ?_ (hput u) <;> rw [e1, upsOf_mkU lb', appH_many _ _ hnd]
      · exact hres.1
      · exact hres.2
    cases q with
    | false =>
      refine fin sf f1 f2 (fun i => by rw [← hsf]; exact appH_t s _ i) (fun k => ⟨fun t ht e => ?_, ?_⟩) (fun c A O _ hh => hh) hr' ?_
      · subst e
        rw [f3, if_neg (hkn t ht)]
      · obtain ⟨g, st, cs, hb⟩ := sim.hp.isb k
        rw [f3]
        split
        · rw [hb]; exact ⟨1, cs, rfl⟩
        · rw [hb]; exact ⟨st, cs, rfl⟩
      · rw [← hsf, appH, appH, appH, List.map_append, app_append]; rfl
    | true =>
      obtain ⟨b1, b2⟩ := h9 rfl
      refine fin s sim.hp (Step.refl _ _ _) (fun _ => rfl) (fun k => ⟨fun _ _ _ => rfl, ?_⟩) (fun c A O hO hh => hh.bare ?_) (Rep.bare _ _ b1 hr') rfl
      · obtain ⟨g, st, cs, hb⟩ := sim.hp.isb k
        rw [hb]; exact ⟨st, cs, rfl⟩
      · simp only [List.all_eq_true] at b2 ⊢
        exact b2 O hO
end
end Go.Ab
end
section
namespace Go.Ab
open Go
mutual
def AV.fp : AV → List Nat
  | .hs k _ _ _ _ => [k]
  | .hp k _ _ => [k]
  | .agg cs => AV.fpL cs
  | .tup cs => AV.fpL cs
  | .sc _ => []
  | .vs .. => []
  | .vp _ => []
  | .blk .. => []
def AV.fpL : List AV → List Nat
  | [] => []
  | x :: xs => x.fp ++ AV.fpL xs
end
def rst (ks : List Nat) (h : Nat → AV) (k : Nat) : AV := if ks.contains k then h k else .sc (.bool false)
def tmpsOf (l : List Operand) : List Loc := l.filterMap fun | .tmp t => some (.t t) | _ => none
def sitesOf (B : Nat) (o : Oper) (s : S) : List Nat :=
  (match o.dst with | some d => [B + d, B + d + 3000000] | none => []) ++ AV.fpL (o.op.operands.toList.map (ev s))
def guardOf (ops : Array Oper) (g : Option (Nat × Bool)) : List Loc := match g with | some (j, _) => (((ops[j]?).bind (·.dst)).map Loc.t).toList | none => []
def readsOf (B : Nat) (ops : Array Oper) (o : Oper) (s : S) : List Loc :=
  guardOf ops o.guard ++ (tmpsOf o.op.operands.toList ++ (sitesOf B o s).map .h)
def CallPure (P : Program) (s : S) (h : Nat → AV) (f : FuncId) (args : List AV) (v : AV) (ups : List (Nat × AV)) : Prop :=
  ∃ as ks as', frzL h args = some (as, ks) ∧ WkL as as' ∧ Spec P f as' v ∧ ups = ks.map fun k => (k, fzn (s (.h k)))
def CallLent (P : Program) (s : S) (h : Nat → AV) (f : FuncId) (args : List AV) (v : AV) (ups : List (Nat × AV)) : Prop :=
  ∃ k g cs as ks as' G L' r, h k = .blk g 2 cs ∧ cs.all AV.fz = true ∧ frzHL h k args = some (as, ks) ∧ ks.contains k = false ∧ AV.keepL k g as = true ∧ WkL (AV.toL KA 1 as) as' ∧ SpecH P f as' cs r G L' ∧ v = r.to k (g + (G - 1)) ∧
    ups = (ks.map fun k => (k, fzn (s (.h k)))) ++ [(k, .blk (g + (G - 1)) 2 L')]
def CallOwn (P : Program) (B : Nat) (dst : Option Tmp) (s : S) (h : Nat → AV) (f : FuncId) (args : List AV) (v : AV) (ups : List (Nat × AV)) : Prop :=
  ∃ d as ks as' r L, dst = some d ∧ frzL h args = some (as, ks) ∧ WkL as as' ∧ SpecO P f as' r L ∧ v = r.to (B + d) (genOf (h (B + d)) + 1) ∧
    ups = (ks.map fun k => (k, fzn (s (.h k)))) ++ [(B + d, .blk (genOf (h (B + d)) + 1) 2 L)]
def CallX (P : Program) (f : FuncId) (args : List AV) (v : AV) (ups : List (Nat × AV)) : Prop :=
  ∃ (us : List Value) (u : Value), args = us.map AV.sc ∧ (∀ w, (callFunc f us.toArray).run P w = .ok (.value u) w) ∧ v = .sc u ∧ ups = []
def CallMore (P : Program) (B : Nat) (dst : Option Tmp) (s : S) (h : Nat → AV) (f : FuncId) (args : List AV) (v : AV) (ups : List (Nat × AV)) : Prop := CallLent P s h f args v ups ∨ CallOwn P B dst s h f args v ups ∨ CallG P B dst s h f args v ups ∨ CallX P f args v ups
def AStep (P : Program) (B : Nat) (o : Oper) (s : S) (h : Nat → AV) (v : AV) (ups : List (Nat × AV)) : Prop :=
  match o.op with
  | .call ⟨.value (.func f), args, _⟩ =>
    CallPure P s h f (args.toList.map (ev s)) v ups ∨ CallMore P B o.dst s h f (args.toList.map (ev s)) v ups
  | op => aeff P B op o.dst (ev s) h = some (v, ups)
def hall (s : S) (k : Nat) : AV := s (.h k)
def hrst (B : Nat) (o : Oper) (s : S) : Nat → AV := rst (sitesOf B o s) fun k => s (.h k)
def ayv : AV → Option (Option Bool)
  | .sc (.bool b) => some (some b)
  | .sc _ => some none
  | _ => none
theorem ayv_b (b : Bool) : ayv (.sc (.bool b)) = some (some b) := rfl
theorem ayv_u : ayv (.sc undef) = some none := rfl
def ayield (ops : Array Oper) (s : S) (j : Nat) : Option (Option Bool) :=
  match (ops[j]?).bind (·.dst) with
  | some d => ayv (s (.t d))
  | none => some none
def mkA (dst : Option Tmp) (v : AV) (ups : List (Nat × AV)) : Asg :=
  ups.map (fun p => (.h p.1, p.2)) ++ (match dst with | some d => [(.t d, v)] | none => [])
def Does (P : Program) (B : Nat) (ops : Array Oper) (o : Oper) (s : S) (h : Nat → AV) (A : Asg) : Prop :=
  match o.guard with
  | none => ∃ v ups, AStep P B o s h v ups ∧ A = mkA o.dst v ups
  | some (j, b) => ∃ y, ayield ops s j = some y ∧ if y = some b then ∃ v ups, AStep P B o s h v ups ∧ A = mkA o.dst v ups else A = mkA o.dst (.sc undef) []
theorem app_mkA (s : S) (dst : Option Tmp) (v : AV) (ups : List (Nat × AV)) : app s (mkA dst v ups) = put (appH s ups) dst v := by
  unfold mkA
  rw [app_append]
  cases dst <;> rfl
section
variable {P : Program} {F : Nat → Prop} {s s' : S} {μ : Mu} {a : Act} {w : World} {B : Nat}
theorem ev_same {x : Operand} (h : ∀ t, x = .tmp t → s' (.t t) = s (.t t)) : ev s' x = ev s x := by
  cases x with
  | tmp t => exact h t rfl
  | _ => rfl
theorem mem_tmpsOf {l : List Operand} {t : Tmp} (h : Operand.tmp t ∈ l) : Loc.t t ∈ tmpsOf l := by
  simp only [tmpsOf, List.mem_filterMap]
  exact ⟨_, h, rfl⟩
theorem aeff_congr {o : Op} {dst : Option Tmp} {ρ ρ' : Operand → AV} {h : Nat → AV} (hs : ∀ x ∈ o.operands, ρ' x = ρ x) : aeff P B o dst ρ' h = aeff P B o dst ρ h := by
  have hl : ∀ (l : List Operand), (∀ x ∈ l, ρ' x = ρ x) → l.map ρ' = l.map ρ := fun l h => List.map_congr_left h
  have hps : ∀ (ps : Array (Nat × Operand)), (∀ x ∈ (ps.toList.map (·.2)).toArray, ρ' x = ρ x) → (ps.toList.map fun p => (p.1, ρ' p.2)) = ps.toList.map fun p => (p.1, ρ p.2) := by
    intro ps h
    refine List.map_congr_left fun p hp => ?_
    rw [h p.2 (by simp; exact ⟨p.1, by simpa using hp⟩)]
  have hopt : ∀ (x : Option Operand), (∀ y ∈ x.toArray, ρ' y = ρ y) → x.map ρ' = x.map ρ := by
    intro x h
    cases x with
    | none => rfl
    | some x => simp [h x (by simp)]
  cases o with
  | call c =>
    obtain ⟨callee, as, ts⟩ := c
    cases callee with
    | builtin b =>
      simp only [aeff]
      rw [hl as.toList fun x hx => hs x (by simp [Op.operands, Call.operands]; simpa using hx)]
    | _ => rfl
  | build t ps =>
    simp only [aeff]
    rw [hps ps (by simpa [Op.operands] using hs)]
  | buildSlice t n ps =>
    simp only [aeff]
    rw [hps ps (by simpa [Op.operands] using hs)]
  | slice t x lo hi mx =>
    simp only [aeff]
    rw [hs x (by simp [Op.operands]), hopt lo fun y hy => hs y (by simp [Op.operands, hy]), hopt hi fun y hy => hs y (by simp [Op.operands, hy]), hopt mx fun y hy => hs y (by simp [Op.operands, hy])]
  | _ => simp only [aeff] <;> (try simp only [Op.operands] at hs) <;> simp_all
theorem fpL_same {l : List Operand} (h : ∀ x ∈ l, ev s' x = ev s x) : AV.fpL (l.map (ev s')) = AV.fpL (l.map (ev s)) := by
  rw [List.map_congr_left h]
theorem rst_same {ks : List Nat} (h : ∀ k ∈ ks, s' (.h k) = s (.h k)) : rst ks (fun k => s' (.h k)) = rst ks (fun k => s (.h k)) := by
  funext k
  unfold rst
  split
  · rename_i hk
    exact h k (by simpa using hk)
  · rfl
theorem Does.local {ops : Array Oper} {o : Oper} {A : Asg} (hd : Does P B ops o s (hrst B o s) A) (h : ∀ l ∈ readsOf B ops o s, s' l = s l) : Does P B ops o s' (hrst B o s') A := by
  have hev : ∀ x ∈ o.op.operands.toList, ev s' x = ev s x := fun x hx => ev_same fun t ht => h _ (by
    subst ht
    simp only [readsOf, List.mem_append]
    exact .inr (.inl (mem_tmpsOf hx)))
  have hsites : sitesOf B o s' = sitesOf B o s := by
    unfold sitesOf
    rw [fpL_same hev]
  have hsite : ∀ k ∈ sitesOf B o s, s' (.h k) = s (.h k) := fun k hk => h _ (by
    simp only [readsOf, List.mem_append, List.mem_map]
    exact .inr (.inr ⟨k, hk, rfl⟩))
  have hstep : ∀ v ups, AStep P B o s (hrst B o s) v ups → AStep P B o s' (hrst B o s') v ups := by
    intro v ups hst
    unfold AStep hrst at hst ⊢
    split at hst
    · rename_i f args ts ho
      have hargs : args.toList.map (ev s') = args.toList.map (ev s) := List.map_congr_left fun x hx => hev x (by
        rw [ho]
        simp only [Op.operands, Call.operands]
        simp; exact .inr (by simpa using hx))
      have hups : ∀ ks : List Nat, (∀ k ∈ ks, ∃ g st cs, rst (sitesOf B o s) (fun k => s (.h k)) k = .blk g st cs ∧ st ≠ 0) → (ks.map fun k => (k, fzn (s (.h k)))) = ks.map fun k => (k, fzn (s' (.h k))) := fun ks hks =>
        List.map_congr_left fun k hk => by
          obtain ⟨g, st, cs, hb, _⟩ := hks k hk
          have : k ∈ sitesOf B o s := by
            unfold rst at hb
            split at hb
            · rename_i hk'; simpa using hk'
            · cases hb
          rw [hsite k this]
      rw [hargs, hsites, rst_same hsite]
      rcases hst with ⟨as, ks, as', h1, h2, h3, h4⟩ | ⟨k, g, cs, as, ks, as', G, L', r, h0, h1, h2, h3, h4, h5, h6, h7, h8⟩ | ⟨d, as, ks, as', r, L, h0, h1, h2, h3, h4, h5⟩ | ⟨d, ts, as, ks, as', Ls, Os, r, q, j, g1, g2, g3, g4, g5, g6, g7, g8, g9, g10, g11, g12⟩ | hx
      · exact .inl ⟨as, ks, as', h1, h2, h3, by rw [h4, hups ks (frzL_sites _ _ _ h1).2]⟩
      · exact .inr (.inl ⟨k, g, cs, as, ks, as', G, L', r, h0, h1, h2, h3, h4, h5, h6, h7, by rw [h8, hups ks (frzHL_sites _ _ _ h2)]⟩)
      · exact .inr (.inr (.inl ⟨d, as, ks, as', r, L, h0, h1, h2, h3, h4, by rw [h5, hups ks (frzL_sites _ _ _ h1).2]⟩))
      · exact .inr (.inr (.inr (.inl ⟨d, ts, as, ks, as', Ls, Os, r, q, j, g1, g2, g3, g4, g5, g6, g7, g8, g9, g10, g11, by rw [g12, hups ks (frzGL_sites _ _ _ g5)]⟩)))
      · exact .inr (.inr (.inr (.inr hx)))
    · rename_i hne
      rw [aeff_congr (fun x hx => hev x (by simpa using hx)), hsites, rst_same hsite]
      exact hst
  unfold Does at hd ⊢
  split at hd
  · obtain ⟨v, ups, h1, h2⟩ := hd
    exact ⟨v, ups, hstep v ups h1, h2⟩
  · rename_i j b hg
    obtain ⟨y, h1, h2⟩ := hd
    have hy : ayield ops s' j = ayield ops s j := by
      unfold ayield
      cases hj : (ops[j]?).bind (·.dst) with
      | none => rfl
      | some d =>
        have : s' (.t d) = s (.t d) := h _ (by
          simp only [readsOf, hg, List.mem_append]
          exact .inl (by simp [guardOf, hj]))
        simp only [this]
    refine ⟨y, hy.trans h1, ?_⟩
    split
    · rename_i e
      rw [if_pos e] at h2
      obtain ⟨v, ups, h3, h4⟩ := h2
      exact ⟨v, ups, hstep v ups h3, h4⟩
    · rename_i e
      rw [if_neg e] at h2
      exact h2
theorem yield_ok (sim : Sim F s μ a w) {ops : Array Oper} {j : Nat} {y : Option Bool} (h : ayield ops s j = some y) : yielded ops a.tmps j = y := by
  unfold ayield at h
  unfold yielded
  cases hj : (ops[j]?).bind (·.dst) with
  | none => rw [hj] at h; simpa using h
  | some d =>
    rw [hj] at h
    simp only at h
    unfold ayv at h
    have ht := sim.tm d
    simp only [Option.bind_some]
    cases hd : a.tmps[d]? with
    | none =>
      have hu : a.tmps.getD d undef = undef := by simp [Array.getD_eq_getD_getElem?, hd]
      rw [hu] at ht
      split at h
      · rename_i b hb
        rw [hb] at ht
        have := rep_sc ht
        simp [undef] at this
      · simpa using h
      · cases h
    | some u =>
      have hu : a.tmps.getD d undef = u := by simp [Array.getD_eq_getD_getElem?, hd]
      rw [hu] at ht
      split at h
      · rename_i b hb
        rw [hb] at ht
        have := rep_sc ht
        subst this
        simpa using h
      · rename_i v hne hb
        rw [hb] at ht
        have := rep_sc ht
        subst this
        cases u <;> first | simpa using h | exact absurd rfl (hne _)
      · cases h
def dstOK (nt : Nat) (o : Oper) : Bool := match o.dst with | some d => decide (d < nt) | none => true
theorem rst_sub (ks : List Nat) : Sub (rst ks fun k => s (.h k)) s := by
  intro k g st cs hk
  unfold rst at hk
  split at hk
  · exact hk
  · cases hk
theorem hrst_sub (o : Oper) : Sub (hrst B o s) s := rst_sub _
theorem hrst_own (o : Oper) : Own B o.dst (hrst B o s) s := by
  intro d hd
  have : B + d ∈ sitesOf B o s := by simp [sitesOf, hd]
  simp [hrst, rst, this]
theorem hrst_own2 (o : Oper) : Own2 B o.dst (hrst B o s) s := by
  intro d hd
  have : B + d + 3000000 ∈ sitesOf B o s := by simp [sitesOf, hd]
  simp [hrst, rst, this]
theorem hall_own2 (dst : Option Tmp) : Own2 B dst (hall s) s := fun _ _ => rfl
theorem hall_own (dst : Option Tmp) : Own B dst (hall s) s := fun _ _ => rfl
theorem hall_sub : Sub (hall s) s := fun _ _ _ _ h => h
theorem repL_sc {M : Nat → Prop} : ∀ {us vs : List Value}, RepL w μ M (us.map AV.sc) vs → vs = us
  | [], [], _ => rfl
  | u :: us, v :: vs, h => by
    simp only [List.map_cons, RepL, Rep] at h
    rw [h.1, repL_sc h.2]
  | [], _ :: _, h => by simp [RepL] at h
  | _ :: _, [], h => by simp [RepL] at h
theorem AStep.run {nt : Nat} {o : Oper} {v : AV} {ups : List (Nat × AV)} {h : Nat → AV} (hsub : Sub h s) (hO : Own B o.dst h s) (hO2 : Own2 B o.dst h s) (hst : AStep P B o s h v ups) (sim : Sim F s μ a w) (hnt : a.tmps.size = nt) (hd : dstOK nt o = true) {K : Act → World → Prop} {Q : Exit → Act → World → Prop}
    (hK : ∀ a' w' μ', Sim F (app s (mkA o.dst v ups)) μ' a' w' → Step s μ w (app s (mkA o.dst v ups)) μ' w' → a'.tmps.size = nt → K a' w') : o.wp P a w K Q := by
  have hdst : ∀ i, o.dst = some i → i < a.tmps.size := by
    intro i hi
    unfold dstOK at hd
    rw [hi] at hd
    rw [hnt]
    simpa using hd
  have hput : ∀ u, (a.put o.dst u).tmps.size = nt := by
    intro u
    cases ho : o.dst <;> simp [Act.put, hnt]
  unfold AStep at hst
  split at hst
  · rename_i f args ts ho
    rcases hst with hst | hst | hst | hst | hst
    · obtain ⟨as, ks, as', h1, h2, h3, h4⟩ := hst
      have hsites := frzL_sites _ _ _ h1
      have hks : ∀ k ∈ ks, ∃ g st cs, s (.h k) = .blk g st cs ∧ st ≠ 0 := fun k hk => by
        obtain ⟨g, st, cs, hb, hne⟩ := hsites.2 k hk
        exact ⟨g, st, cs, hsub _ _ _ _ hb, hne⟩
      obtain ⟨f1, f2, f3⟩ := freeze_all ks s sim.hp hks
      have hargs : RepL w μ (Mof F s μ) (args.toList.map (ev s)) (args.toList.map a.eval) := RepL.of_get (by simp) fun i x u hx hu => by
        rw [List.getElem?_map] at hx hu
        cases hi : args.toList[i]? with
        | none => rw [hi] at hx; simp at hx
        | some p => rw [hi] at hx hu; simp at hx hu; subst hx hu; exact ev_rep sim p
      have hfz := frzL_rep sim.hp f1 f2 hsub _ _ _ _ h1 (fun k hk => by rw [f3, if_pos hk]) hargs
      rw [← h4] at f1 f2 hfz
      have hr0 : RepL w μ0 (Mof F (appH s ups) μ) as' (args.toList.map a.eval) := h2 _ _ _ _ (RepL.ghost (fun _ h => h) _ _ hsites.1 hfz)
      have hcalls := h3.calls (Mof F (appH s ups) μ) w _ (fun c hc => by
        rcases hc with hc | ⟨k, g, cs, L, A, _, hc⟩
        · exact f1.fb c hc
        · exact (f1.old _ _ _ _ _ hc).1) (sim.tb.step f2) hr0
      have hrun : (execOp a.eval o).run P w = .ok (.enter f (args.toList.map a.eval).toArray) w := by
        have := h3.enter (args.map a.eval) w
        have e1 : (args.toList.map a.eval).toArray = args.map a.eval := by rw [← Array.toList_map, Array.toArray_toList]
        rw [e1]
        simp [execOp, ho, resolve, Act.eval, Deferred.ofValue, invoke, this]
      unfold Oper.wp
      rw [hrun, Oper.upon_enter]
      refine Calls.mono hcalls fun e w' he => ?_
      cases e with
      | panicked ch => exact he.elim
      | outgrown => exact he.elim
      | returned u =>
        obtain ⟨hu, hext⟩ := he
        obtain ⟨g1, g2⟩ := Hp.later f1 hext
        have hrv : Rep w' μ (Mof F (appH s ups) μ) v u := Rep.ghost (fun _ h => h) _ _ h3.pure hu
        have hres := Sim.put sim (f2.trans g2) (fun i => appH_t s ups i) g1 o.dst hdst hrv
        rw [← app_mkA] at hres
        exact hK _ _ _ hres.1 hres.2 (hput u)
    · obtain ⟨k, g, cs, as, ks, as', G, L', r, g0, g1, g2, g3, g4, g5, g6, rfl, rfl⟩ := hst
      have hks : ∀ k ∈ ks, ∃ g st cs, s (.h k) = .blk g st cs ∧ st ≠ 0 := fun k hk => by
        obtain ⟨g, st, cs, hb, hne⟩ := frzHL_sites _ _ _ g2 k hk
        exact ⟨g, st, cs, hsub _ _ _ _ hb, hne⟩
      obtain ⟨f1, f2, f3⟩ := freeze_all ks s sim.hp hks
      have hkn : k ∉ ks := by simpa using g3
      have hsk : appH s (ks.map fun k => (k, fzn (s (.h k)))) (.h k) = .blk g 2 cs := by rw [f3, if_neg hkn]; exact hsub _ _ _ _ g0
      generalize hs1 : appH s (ks.map fun k => (k, fzn (s (.h k)))) = s1 at *
      have hargs : RepL w μ (Mof F s μ) (args.toList.map (ev s)) (args.toList.map a.eval) := RepL.of_get (by simp) fun i x u hx hu => by
        rw [List.getElem?_map] at hx hu
        cases hi : args.toList[i]? with
        | none => rw [hi] at hx; simp at hx
        | some p => rw [hi] at hx hu; simp at hx hu; subst hx hu; exact ev_rep sim p
      have hfz := frzHL_rep sim.hp f1 f2 hsub _ _ _ _ g2 (fun k hk => by rw [f3, if_pos hk]) hargs
      obtain ⟨c, A, arr, e, f', r1, r2, r3, r4, r5, r6⟩ := f1.row k g 2 cs hsk (by decide)
      have hcold := f1.old _ _ _ _ _ r1
      have hM : ∀ b, (Mof F s1 μ b ∧ b ≠ c) ∨ b = c → Mof F s1 μ b := fun b hb => by
        rcases hb with hb | rfl
        · exact hb.1
        · exact .inr ⟨k, g, cs, _, A, hsk, r1⟩
      have hr0 : RepL w (μ1 1 c cs.length A) (fun b => (Mof F s1 μ b ∧ b ≠ c) ∨ b = c) as' (args.toList.map a.eval) := g5 _ _ _ _ (RepL.to (k := k) (g := g) hM (by rw [μ1_at, r1]) _ _ g4 hfz)
      have hholds : Holds w (fun b => (Mof F s1 μ b ∧ b ≠ c) ∨ b = c) c A cs := ⟨arr, e, f', r2, r3, r4, r5, fun i x hx => by
        have hfz : x.fz = true := by simp only [List.all_eq_true] at g1; exact g1 x (List.mem_of_getElem? hx)
        obtain ⟨_, v, j2, j3⟩ := r6 i x hx
        exact ⟨hfz, v, j2, Rep.ghost hM x v (AV.pure_of_fz hfz) j3⟩⟩
      have hcalls := g6.calls (fun b => Mof F s1 μ b ∧ b ≠ c) w _ c A (fun b hb => by
        rcases hb.1 with hc | ⟨k, g, cs, L, A, _, hc⟩
        · exact f1.fb b hc
        · exact (f1.old _ _ _ _ _ hc).1) hcold.1 (fun h => h.2 rfl) hholds ((sim.tb.step f2).weaken hM) hr0
      have hrun : (execOp a.eval o).run P w = .ok (.enter f (args.toList.map a.eval).toArray) w := by
        have := g6.enter (args.map a.eval) w
        have e1 : (args.toList.map a.eval).toArray = args.map a.eval := by rw [← Array.toList_map, Array.toArray_toList]
        rw [e1]
        simp [execOp, ho, resolve, Act.eval, Deferred.ofValue, invoke, this]
      unfold Oper.wp
      rw [hrun, Oper.upon_enter]
      refine Calls.mono hcalls fun e w' he => ?_
      cases e with
      | panicked ch => exact he.elim
      | outgrown => exact he.elim
      | returned u =>
        obtain ⟨c', A', h1, h2, h3, h4, h5, h6⟩ := he
        obtain ⟨μ', m1, m2, m3, m4⟩ := lent f1 hsk r1 g6.pos h1 h2 h3 h4 h6
        have hrv : Rep w' μ' (Mof F (upd s1 (.h k) (.blk (g + (G - 1)) 2 L')) μ') (r.to k (g + (G - 1))) u := Rep.to (k := KA) (g := G) m4 (by rw [m1, μ1_at]) _ _ g6.keep h5
        have e1 : appH s ((ks.map fun k => (k, fzn (s (.h k)))) ++ [(k, .blk (g + (G - 1)) 2 L')]) = upd s1 (.h k) (.blk (g + (G - 1)) 2 L') := by
          rw [← hs1, appH, appH, List.map_append, app_append]; rfl
        have hres := Sim.put sim (f2.trans m3) (fun i => by rw [upd_other _ _ (by simp), ← hs1]; exact appH_t s _ i) m2 o.dst hdst hrv
        rw [← e1, ← app_mkA] at hres
        exact hK _ _ _ hres.1 hres.2 (hput u)
    · obtain ⟨d, as, ks, as', r, L, hod, h1, h2, h3, rfl, rfl⟩ := hst
      have hsites := frzL_sites _ _ _ h1
      have hks : ∀ k ∈ ks, ∃ g st cs, s (.h k) = .blk g st cs ∧ st ≠ 0 := fun k hk => by
        obtain ⟨g, st, cs, hb, hne⟩ := hsites.2 k hk
        exact ⟨g, st, cs, hsub _ _ _ _ hb, hne⟩
      obtain ⟨f1, f2, f3⟩ := freeze_all ks s sim.hp hks
      have hargs : RepL w μ (Mof F s μ) (args.toList.map (ev s)) (args.toList.map a.eval) := RepL.of_get (by simp) fun i x u hx hu => by
        rw [List.getElem?_map] at hx hu
        cases hi : args.toList[i]? with
        | none => rw [hi] at hx; simp at hx
        | some p => rw [hi] at hx hu; simp at hx hu; subst hx hu; exact ev_rep sim p
      have hfz := frzL_rep sim.hp f1 f2 hsub _ _ _ _ h1 (fun k hk => by rw [f3, if_pos hk]) hargs
      have hgen : ∃ st cs, appH s (ks.map fun k => (k, fzn (s (.h k)))) (.h (B + d)) = .blk (genOf (h (B + d))) st cs := by
        have hh := hO d hod
        obtain ⟨g, st, cs, hb⟩ := sim.hp.isb (B + d)
        have : genOf (h (B + d)) = g := by rw [hh, hb]; rfl
        rw [this, f3]
        split
        · rw [hb]; exact ⟨1, cs, rfl⟩
        · rw [hb]; exact ⟨st, cs, rfl⟩
      generalize hs1 : appH s (ks.map fun k => (k, fzn (s (.h k)))) = s1 at *
      obtain ⟨st0, cs0, hsk⟩ := hgen
      have hr0 : RepL w μ0 (Mof F s1 μ) as' (args.toList.map a.eval) := h2 _ _ _ _ (RepL.ghost (fun _ h => h) _ _ hsites.1 hfz)
      have hcalls := h3.calls (Mof F s1 μ) w _ (fun c hc => by
        rcases hc with hc | ⟨k, g, cs, L, A, _, hc⟩
        · exact f1.fb c hc
        · exact (f1.old _ _ _ _ _ hc).1) (sim.tb.step f2) hr0
      have hrun : (execOp a.eval o).run P w = .ok (.enter f (args.toList.map a.eval).toArray) w := by
        have := h3.enter (args.map a.eval) w
        have e1 : (args.toList.map a.eval).toArray = args.map a.eval := by rw [← Array.toList_map, Array.toArray_toList]
        rw [e1]
        simp [execOp, ho, resolve, Act.eval, Deferred.ofValue, invoke, this]
      unfold Oper.wp
      rw [hrun, Oper.upon_enter]
      refine Calls.mono hcalls fun e w' he => ?_
      cases e with
      | panicked ch => exact he.elim
      | outgrown => exact he.elim
      | returned u =>
        obtain ⟨c', A', q1, q2, q4, q5, q6⟩ := he
        obtain ⟨μ', m1, m2, m3, m4⟩ := own_new f1 hsk q1 q2 q4 q6
        have hrv : Rep w' μ' (Mof F (upd s1 (.h (B + d)) (.blk (genOf (h (B + d)) + 1) 2 L)) μ') (r.to (B + d) (genOf (h (B + d)) + 1)) u := Rep.to (k := KA) (g := 1) m4 (by rw [m1, μ1_at]) _ _ h3.keep q5
        have e1 : appH s ((ks.map fun k => (k, fzn (s (.h k)))) ++ [(B + d, .blk (genOf (h (B + d)) + 1) 2 L)]) = upd s1 (.h (B + d)) (.blk (genOf (h (B + d)) + 1) 2 L) := by
          rw [← hs1, appH, appH, List.map_append, app_append]; rfl
        have hres := Sim.put sim (f2.trans m3) (fun i => by rw [upd_other _ _ (by simp), ← hs1]; exact appH_t s _ i) m2 o.dst hdst hrv
        rw [← e1, ← app_mkA] at hres
        exact hK _ _ _ hres.1 hres.2 (hput u)
    · exact CallG.run ho hsub hO hO2 hst sim hnt hdst fun a' w' μ' => by rw [← app_mkA]; exact hK a' w' μ'
    · obtain ⟨us, u, x1, x2, rfl, rfl⟩ := hst
      have hargs : RepL w μ (Mof F s μ) (args.toList.map (ev s)) (args.toList.map a.eval) := RepL.of_get (by simp) fun i x u hx hu => by
        rw [List.getElem?_map] at hx hu
        cases hi : args.toList[i]? with
        | none => rw [hi] at hx; simp at hx
        | some p => rw [hi] at hx hu; simp at hx hu; subst hx hu; exact ev_rep sim p
      rw [x1] at hargs
      have e0 := repL_sc hargs
      have hrun : (execOp a.eval o).run P w = .ok (.value u) w := by
        have := x2 w
        have e1 : us.toArray = args.map a.eval := by rw [← e0, ← Array.toList_map, Array.toArray_toList]
        rw [e1] at this
        simp [execOp, ho, resolve, Act.eval, Deferred.ofValue, invoke, this]
      unfold Oper.wp
      rw [hrun, Oper.upon_value]
      have hres := Sim.put (x := .sc u) (v := u) sim (Step.refl s μ w) (fun _ => rfl) sim.hp o.dst hdst (by simp [Rep])
      rw [← appH_nil s, ← app_mkA] at hres
      exact hK _ _ _ hres.1 hres.2 (hput u)
  · obtain ⟨n, u, w', h1, h2, ⟨μ', h3, h4, h5⟩⟩ := aeff_ran sim hsub hO hst
    have hres := Sim.put sim h5 (fun i => appH_t s ups i) h4 o.dst hdst h3
    rw [← app_mkA] at hres
    unfold Oper.wp
    rw [h1]
    rcases h2 with rfl | ⟨rfl, rfl⟩
    · exact hK _ _ _ hres.1 hres.2 (hput u)
    · exact hK _ _ _ hres.1 hres.2 (hput _)
theorem Does.run {nt : Nat} {ops : Array Oper} {i : Nat} {o : Oper} (ho : ops[i]? = some o) {A : Asg} {h : Nat → AV} (hsub : Sub h s) (hO : Own B o.dst h s) (hO2 : Own2 B o.dst h s) (hdo : Does P B ops o s h A) (sim : Sim F s μ a w) (hnt : a.tmps.size = nt) (hd : dstOK nt o = true) {K : Act → World → Prop} {Q : Exit → Act → World → Prop}
    (hK : ∀ a' w' μ', Sim F (app s A) μ' a' w' → Step s μ w (app s A) μ' w' → a'.tmps.size = nt → K a' w') : wpOp P ops Q i K a w := by
  unfold wpOp
  rw [ho]
  simp only
  unfold Does at hdo
  have hun : A = mkA o.dst (.sc undef) [] → K (a.put o.dst undef) w := by
    rintro rfl
    have hdst : ∀ i, o.dst = some i → i < a.tmps.size := by
      intro i hi
      unfold dstOK at hd
      rw [hi] at hd
      rw [hnt]
      simpa using hd
    have hres := Sim.put (x := .sc undef) (v := undef) sim (Step.refl s μ w) (fun _ => rfl) sim.hp o.dst hdst (by simp [Rep])
    refine hK _ _ μ (by rw [app_mkA, appH_nil]; exact hres.1) (by rw [app_mkA, appH_nil]; exact hres.2) ?_
    cases ho : o.dst <;> simp [Act.put, hnt]
  split at hdo
  · rename_i hg
    obtain ⟨v, ups, h1, rfl⟩ := hdo
    have hw : Region.wanted o (yielded ops a.tmps) = true := by simp [Region.wanted, hg]
    rw [if_pos hw]
    exact .inl (AStep.run hsub hO hO2 h1 sim hnt hd hK)
  · rename_i j b hg
    obtain ⟨y, h1, h2⟩ := hdo
    have hy := yield_ok sim h1
    by_cases e : y = some b
    · rw [if_pos e] at h2
      obtain ⟨v, ups, h3, rfl⟩ := h2
      have hw : Region.wanted o (yielded ops a.tmps) = true := by simp [Region.wanted, hg, hy, e]
      rw [if_pos hw]
      exact .inl (AStep.run hsub hO hO2 h3 sim hnt hd hK)
    · rw [if_neg e] at h2
      have hw : ¬ Region.wanted o (yielded ops a.tmps) = true := by simpa [Region.wanted, hg, hy] using e
      rw [if_neg hw]
      exact hun h2
end
end Go.Ab
end
section
namespace Go.Ab
open Go
def AOps (P : Program) (B : Nat) (ops : Array Oper) (K : List Ent → S → Prop) : List Oper → List Ent → S → Prop
  | [], L, s => K L s
  | o :: rest, L, s => ∃ A, Does P B ops o s (hrst B o s) A ∧ AOps P B ops K rest (L ++ [(readsOf B ops o s, A.map (·.1))]) (app s A)
def AOps0 (P : Program) (B : Nat) (ops : Array Oper) (K : S → Prop) : List Oper → S → Prop
  | [], s => K s
  | o :: rest, s => ∃ A, Does P B ops o s (hall s) A ∧ AOps0 P B ops K rest (app s A)
def thenQ (N : S → Prop) (Q : Exit → S → Prop) : Exit → S → Prop
  | .normal, s => N s
  | e, s => Q e s
def blockQ (id : Nat) (Q : Exit → S → Prop) : Exit → S → Prop
  | .exit id', s => if id' = id then Q .normal s else Q (.exit id') s
  | e, s => Q e s
def AWP (P : Program) (B : Nat) : Code → (Exit → S → Prop) → S → Prop
  | .skip, Q, s => Q .normal s
  | .region _ ops false, Q, s => AOps0 P B ops (Q .normal) ops.toList s
  | .region _ ops true, Q, s => AOps P B ops (fun L s' => okLog ops L = true ∧ Q .normal s') ops.toList [] s
  | .seq x y, Q, s => AWP P B x (thenQ (AWP P B y Q) Q) s
  | .cond c x y, Q, s => ∃ b, ev s c = .sc (.bool b) ∧ (b = true → AWP P B x Q s) ∧ (b = false → AWP P B y Q s)
  | .block id x, Q, s => AWP P B x (blockQ id Q) s
  | .loop x, Q, s => ∃ (I : Nat → S → Prop) (n : Nat), I n s ∧ ∀ n s, I n s → AWP P B x (thenQ (fun s' => ∃ n', n' < n ∧ I n' s') Q) s
  | .exit id, Q, s => Q (.exit id) s
  | .ret, Q, s => Q .ret s
  | _, _, _ => False
def codeOK (nt : Nat) : Code → Bool
  | .region _ ops _ => ops.toList.all (dstOK nt)
  | .seq x y | .cond _ x y => codeOK nt x && codeOK nt y
  | .block _ x | .loop x => codeOK nt x
  | _ => true
section
variable {P : Program} {F : Nat → Prop} {B nt : Nat}
def QQ (F : Nat → Prop) (nt : Nat) (s : S) (μ : Mu) (w : World) (Q : Exit → S → Prop) : Exit → Act → World → Prop
  | .outgrown, _, _ => False
  | e, a', w' => ∃ s' μ', Q e s' ∧ Sim F s' μ' a' w' ∧ Step s μ w s' μ' w' ∧ a'.tmps.size = nt
theorem AOps.trace {ops : Array Oper} {K : List Ent → S → Prop} : ∀ {rest : List Oper} {L : List Ent} {s : S}, AOps P B ops K rest L s →
    ∃ (As : List Asg) (Es : List Ent), As.length = rest.length ∧ Es.length = rest.length ∧ (∀ (j : Nat) (A : Asg) (E : Ent), As[j]? = some A → Es[j]? = some E → E.2 = A.map (·.1)) ∧
      (∀ (j : Nat) (o : Oper) (A : Asg) (E : Ent), rest[j]? = some o → As[j]? = some A → Es[j]? = some E → E.1 = readsOf B ops o (stAt s As j) ∧ Does P B ops o (stAt s As j) (hrst B o (stAt s As j)) A) ∧ K (L ++ Es) (As.foldl app s)
  | [], L, s, h => ⟨[], [], rfl, rfl, by simp, by simp, by simpa [AOps] using h⟩
  | o :: rest, L, s, h => by
    obtain ⟨A, h1, h2⟩ := h
    obtain ⟨As, Es, g1, g2, g3, g4, g5⟩ := AOps.trace h2
    refine ⟨A :: As, (readsOf B ops o s, A.map (·.1)) :: Es, by simp [g1], by simp [g2], ?_, ?_, by simpa using g5⟩
    · intro j A' E' hA hE
      cases j with
      | zero => simp at hA hE; subst hA hE; rfl
      | succ j => exact g3 j A' E' (by simpa using hA) (by simpa using hE)
    · intro j o' A' E' ho hA hE
      cases j with
      | zero =>
        simp at ho hA hE
        subst ho hA hE
        exact ⟨rfl, h1⟩
      | succ j =>
        have := g4 j o' A' E' (by simpa using ho) (by simpa using hA) (by simpa using hE)
        simpa [stAt] using this
theorem AOps0.plain {ops : Array Oper} {K : S → Prop} {Q : Exit → Act → World → Prop} : ∀ {rest : List Oper} {s : S}, AOps0 P B ops K rest s → rest.all (dstOK nt) = true →
    ∀ (k : Nat), ops.toList.drop k = rest → ∀ (μ : Mu) (a : Act) (w : World), Sim F s μ a w → a.tmps.size = nt →
    (∀ s' μ' a' w', K s' → Sim F s' μ' a' w' → Step s μ w s' μ' w' → a'.tmps.size = nt → Q .normal a' w') → wpOps P ops Q (List.range' k rest.length) a w
  | [], s, h, _, k, _, μ, a, w, sim, hnt, hK => hK _ _ _ _ h sim (Step.refl _ _ _) hnt
  | o :: rest, s, h, hd, k, hk, μ, a, w, sim, hnt, hK => by
    obtain ⟨A, h1, h2⟩ := h
    simp only [List.all_cons, Bool.and_eq_true] at hd
    have ho : ops[k]? = some o := by
      have : (ops.toList.drop k)[0]? = some o := by rw [hk]; rfl
      simpa using this
    rw [List.length_cons, List.range'_succ, wpOps_cons]
    refine Does.run ho hall_sub (hall_own _) (hall_own2 _) h1 sim hnt hd.1 fun a' w' μ' s1 s2 hn => ?_
    exact AOps0.plain h2 hd.2 (k + 1) (by rw [← List.drop_drop, hk]; rfl) μ' a' w' s1 hn fun s' μ'' a'' w'' k1 k2 k3 k4 => hK _ _ _ _ k1 k2 (s2.trans k3) k4
theorem Sim.drew {s : S} {μ : Mu} {a : Act} {w : World} (h : Sim F s μ a w) : Sim F s μ a { w with drawn := w.drawn + 1 } ∧ Step s μ w s μ { w with drawn := w.drawn + 1 } := by
  have hst : Step s μ w s μ { w with drawn := w.drawn + 1 } := ⟨fun _ _ _ h => h, ⟨rfl, rfl, rfl, Nat.le_refl _, fun _ _ _ => rfl⟩, fun _ _ h => h⟩
  have hp := (Hp.later h.hp (w' := { w with drawn := w.drawn + 1 }) ⟨rfl, rfl, rfl, Nat.le_refl _, fun _ _ _ => rfl⟩).1
  exact ⟨⟨fun i => Rep.mono hst.up _ _ (h.tm i), hp, h.df, h.tb.step hst⟩, hst⟩
theorem QQ.normal {s : S} {μ : Mu} {w : World} {Q : Exit → S → Prop} {a' : Act} {w' : World} (s' : S) (μ' : Mu) (h : Q .normal s') (h1 : Sim F s' μ' a' w') (h2 : Step s μ w s' μ' w') (h3 : a'.tmps.size = nt) : QQ F nt s μ w Q .normal a' w' :=
  ⟨s', μ', h, h1, h2, h3⟩
theorem QQ.from {s s1 : S} {μ μ1 : Mu} {w w1 : World} {Q : Exit → S → Prop} (h : Step s μ w s1 μ1 w1) {e : Exit} {a' : Act} {w' : World} (hq : QQ F nt s1 μ1 w1 Q e a' w') : QQ F nt s μ w Q e a' w' := by
  cases e <;> first | exact hq.elim | (obtain ⟨s', μ', q1, q2, q3, q4⟩ := hq; exact ⟨s', μ', q1, q2, h.trans q3, q4⟩)
theorem AWP.sound (hm : P.follows .mixedOrders = true) : ∀ (c : Code) (Q : Exit → S → Prop) (s : S), codeOK nt c = true → AWP P B c Q s → ∀ (μ : Mu) (a : Act) (w : World), Sim F s μ a w → a.tmps.size = nt → c.wp P (QQ F nt s μ w Q) a w
  | .skip, Q, s, _, h, μ, a, w, sim, hnt => wp_skip ⟨s, μ, h, sim, Step.refl _ _ _, hnt⟩
  | .region id ops false, Q, s, hc, h, μ, a, w, sim, hnt => by
    simp only [codeOK] at hc
    refine wp_region ?_
    have := AOps0.plain (Q := QQ F nt s μ w Q) h hc 0 (by simp) μ a w sim hnt fun s' μ' a' w' k1 k2 k3 k4 => ⟨s', μ', k1, k2, k3, k4⟩
    rw [List.range_eq_range']
    simpa using this
  | .region id ops true, Q, s, hc, h, μ, a, w, sim, hnt => by
    simp only [codeOK] at hc
    refine wp_region_any hm ?_
    obtain ⟨As, Es, g1, g2, g3, g4, g5, g6⟩ := AOps.trace h
    have hd := sim.drew
    have hf0 : foldS s (flags (lsD (Array.replicate ops.size false)) As) = s := foldS_none _ _ fun p hp => by
      obtain ⟨j, hj⟩ := List.getElem?_of_mem hp
      rw [flags_get] at hj
      cases hA : As[j]? with
      | none => rw [hA] at hj; simp at hj
      | some A =>
        rw [hA] at hj
        simp at hj
        rw [← hj]
        simp only [lsD, Array.getD_eq_getD_getElem?, Array.getElem?_replicate]
        split <;> rfl
    refine region_any (F := F) (nt := nt) As Es s μ { w with drawn := w.drawn + 1 } (by simpa using g1) (by simpa using g2) g3 (by simpa using g5) ?_ ?_ ops.size (Array.replicate ops.size false) μ a _ (by simp) (by omega) ?_ ?_ ?_ hnt
    · intro i A E hA hE s1 μ1 a1 w1 K hreads sim1 hnt1 hK
      have hi : i < ops.toList.length := by rw [← g1]; exact (List.getElem?_eq_some_iff.1 hA).1
      have ho : ops.toList[i]? = some ops.toList[i] := List.getElem?_eq_getElem hi
      obtain ⟨e1, e2⟩ := g4 i _ A E ho hA hE
      rw [e1] at hreads
      refine Does.run (Array.getElem?_toList ▸ ho) (hrst_sub _) (hrst_own _) (hrst_own2 _) (e2.local hreads) sim1 hnt1 ?_ hK
      simp only [List.all_eq_true] at hc
      exact hc _ (List.getElem_mem hi)
    · intro a' w' μ' s1 s2 hn
      exact ⟨_, μ', g6, s1, hd.2.trans s2, hn⟩
    · intro i o _ hD
      exfalso
      have : lsD (Array.replicate ops.size false) i = true := hD
      simp only [lsD, Array.getD_eq_getD_getElem?, Array.getElem?_replicate] at this
      split at this <;> simp at this
    · rw [hf0]; exact hd.1
    · rw [hf0]; exact Step.refl _ _ _
  | .seq x y, Q, s, hc, h, μ, a, w, sim, hnt => by
    simp only [codeOK, Bool.and_eq_true] at hc
    refine wp_seq (wp_mono (AWP.sound hm x _ s hc.1 h μ a w sim hnt) fun e a' w' hq => ?_)
    cases e with
    | normal =>
      obtain ⟨s', μ', q1, q2, q3, q4⟩ := hq
      exact wp_mono (AWP.sound hm y Q s' hc.2 q1 μ' a' w' q2 q4) fun e' a'' w'' hq' => QQ.from q3 hq'
    | outgrown => exact hq.elim
    | _ => exact hq
  | .cond c x y, Q, s, hc, h, μ, a, w, sim, hnt => by
    simp only [codeOK, Bool.and_eq_true] at hc
    obtain ⟨b, h1, h2, h3⟩ := h
    have hb := ev_rep sim c
    rw [h1] at hb
    have hb := rep_sc hb
    refine wp_cond hb ?_
    cases b with
    | true => exact AWP.sound hm x Q s hc.1 (h2 rfl) μ a w sim hnt
    | false => exact AWP.sound hm y Q s hc.2 (h3 rfl) μ a w sim hnt
  | .block id x, Q, s, hc, h, μ, a, w, sim, hnt => by
    refine wp_block (wp_mono (AWP.sound hm x _ s hc h μ a w sim hnt) fun e a' w' hq => ?_)
    cases e with
    | exit id' =>
      obtain ⟨s', μ', q1, q2⟩ := hq
      simp only [blockQ] at q1
      simp only [Exit.inBlock]
      split
      · rename_i e; rw [if_pos e] at q1; exact ⟨s', μ', q1, q2⟩
      · rename_i e; rw [if_neg e] at q1; exact ⟨s', μ', q1, q2⟩
    | outgrown => exact hq.elim
    | _ => exact hq
  | .loop x, Q, s, hc, h, μ, a, w, sim, hnt => by
    obtain ⟨I, n, h1, h2⟩ := h
    refine wp_loop_ghost (fun n a' w' => ∃ s' μ', I n s' ∧ Sim F s' μ' a' w' ∧ Step s μ w s' μ' w' ∧ a'.tmps.size = nt) n ⟨s, μ, h1, sim, Step.refl _ _ _, hnt⟩ fun n a1 w1 hI => ?_
    obtain ⟨s1, μ1, i1, i2, i3, i4⟩ := hI
    refine wp_mono (AWP.sound hm x _ s1 hc (h2 n s1 i1) μ1 a1 w1 i2 i4) fun e a' w' hq => ?_
    cases e with
    | normal =>
      obtain ⟨s', μ', ⟨n', q0, q1⟩, q2, q3, q4⟩ := hq
      exact ⟨n', q0, s', μ', q1, q2, i3.trans q3, q4⟩
    | outgrown => exact hq.elim
    | _ =>
      obtain ⟨s', μ', q1, q2, q3, q4⟩ := hq
      exact ⟨s', μ', q1, q2, i3.trans q3, q4⟩
  | .exit id, Q, s, _, h, μ, a, w, sim, hnt => wp_exit ⟨s, μ, h, sim, Step.refl _ _ _, hnt⟩
  | .ret, Q, s, _, h, μ, a, w, sim, hnt => wp_ret ⟨s, μ, h, sim, Step.refl _ _ _, hnt⟩
def init (as : List AV) : S
  | .t i => as.getD i (.sc undef)
  | .h _ => .blk 0 0 []
def ares (P : Program) (s : S) : List ResultVar → Option (List AV)
  | [] => some []
  | .tmp t :: rs => match ares P s rs with
    | some l => some (s (.t t) :: l)
    | none => none
  | .cell t ty :: rs => match aload P ty (s (.t t)) (fun k => s (.h k)), ares P s rs with
    | some v, some l => some (v :: l)
    | _, _ => none
def tupA : List AV → AV
  | [x] => x
  | l => .tup l
def Ret (P : Program) (fn : Func) (r : AV) : Exit → S → Prop
  | .normal, s | .ret, s => ∃ l r' ks, ares P s fn.results.toList = some l ∧ frz (fun k => s (.h k)) (tupA l) = some (r', ks) ∧ Wk r' r
  | _, _ => False
end
end Go.Ab
end
section
namespace Go.Ab
open Go
section
variable {P : Program} {F : Nat → Prop} {s : S} {μ : Mu} {a : Act} {w : World} {M : Nat → Prop}
theorem aload_ok (hp : Hp F s μ w) {t : TypeId} {x v : AV} {u : Value} (hx : Rep w μ (Mof F s μ) x u) (he : aload P t x (fun k => s (.h k)) = some v) :
    ∃ ad u', u = .pointer (some ad) ∧ (loadVar t ad).run P w = .ok u' w ∧ Rep w μ (Mof F s μ) v u' := by
  unfold aload at he
  split at he
  · cases he
  · rename_i ty hty
    split at he
    · rename_i k g off
      simp only [Rep] at hx
      obtain ⟨c, L, A, hm, rfl⟩ := hx
      split at he
      · rename_i g' st cs hb
        split at he
        · rename_i hc
          obtain ⟨rfl, hst⟩ := hc
          obtain ⟨hcells, _⟩ := row_cells hp hb hst hm
          obtain ⟨u, h1, h2⟩ := cut_load hty hcells he
          rw [Nat.zero_add] at h1
          exact ⟨_, u, rfl, h1, h2⟩
        · cases he
      · cases he
    · rename_i xs
      simp only [Rep] at hx
      obtain ⟨b, o1, rfl, hb, hM, hrow⟩ := hx
      obtain ⟨u, h1, h2⟩ := cut_load (M := Mof F s μ) (c := b) (o0 := o1) hty (fun i x hi => (Row.get hrow i x hi).2) he
      rw [Nat.add_zero] at h1
      exact ⟨_, u, rfl, h1, h2⟩
    · cases he
theorem ares_ok (sim : Sim F s μ a w) : ∀ (rs : List ResultVar) (l : List AV), ares P s rs = some l →
    ∃ vs : List Value, (rs.mapM fun | .tmp t => pure (a.tmps.getD t undef) | .cell ad t => do loadVar t (← asAddr (a.tmps.getD ad undef)) : Sem (List Value)).run P w = .ok vs w ∧ RepL w μ (Mof F s μ) l vs
  | [], l, h => by
    simp only [ares, Option.some.injEq] at h
    subst h
    exact ⟨[], by simp, by simp [RepL]⟩
  | .tmp t :: rs, l, h => by
    simp only [ares] at h
    split at h
    · rename_i l' h1
      cases h
      obtain ⟨vs, h2, h3⟩ := ares_ok sim rs l' h1
      refine ⟨a.tmps.getD t undef :: vs, ?_, by simp only [RepL]; exact ⟨sim.tm t, h3⟩⟩
      simp only [List.mapM_cons, Sem.run_bind, Sem.run_pure, Result.andThen, h2]
    · cases h
  | .cell t ty :: rs, l, h => by
    simp only [ares] at h
    split at h
    · rename_i v l' h0 h1
      cases h
      obtain ⟨vs, h2, h3⟩ := ares_ok sim rs l' h1
      obtain ⟨ad, u, h4, h5, h6⟩ := aload_ok sim.hp (sim.tm t) h0
      refine ⟨u :: vs, ?_, by simp only [RepL]; exact ⟨h6, h3⟩⟩
      have ha : (asAddr (a.tmps.getD t undef)).run P w = .ok ad w := by rw [h4]; rfl
      simp only [List.mapM_cons, Sem.run_bind, Sem.run_pure, Result.andThen, ha, h5, h2]
    · cases h
theorem ares_results (sim : Sim F s μ a w) {fn : Func} {l : List AV} (h : ares P s fn.results.toList = some l) :
    ∃ vs : List Value, (results fn a.tmps).run P w = .ok (if h : vs.toArray.size = 1 then vs.toArray[0] else .tuple vs.toArray) w ∧ RepL w μ (Mof F s μ) l vs := by
  obtain ⟨vs, h4, h5⟩ := ares_ok sim _ _ h
  refine ⟨vs, ?_, h5⟩
  have h4' : (fn.results.mapM fun | .tmp t => pure (a.tmps.getD t undef) | .cell ad t => do loadVar t (← asAddr (a.tmps.getD ad undef)) : Sem (Array Value)).run P w = .ok vs.toArray w := by
    rw [← Array.toArray_toList (xs := fn.results), List.mapM_toArray]
    simp only [Sem.run_map, h4]
    rfl
  unfold results
  rw [Sem.run_bind]
  exact congrArg (fun r => Result.andThen r fun (vs : Array Value) w => .ok (if h : vs.size = 1 then vs[0] else .tuple vs) w) h4'
theorem Wof_init (as : List AV) (c : Nat) : ¬ Wof (init as) μ0 c := by
  rintro ⟨k, g, cs, L, A, _, h⟩
  simp [μ0] at h
theorem Sim.init {as : List AV} {vs : List Value} {n : Nat} (hF : ∀ c, F c → c < w.heap.size) (hT : TabOK w F) (hr : RepL w μ0 F as vs) : Sim F (init as) μ0 { tmps := vs.toArray ++ Array.replicate (n - vs.toArray.size) undef, defers := [] } w := by
  have hM : ∀ b, Mof F (Ab.init as) μ0 b → F b := fun b hb => hb.elim id fun h => (Wof_init as b h).elim
  refine ⟨fun i => ?_, ⟨?_, ?_, ?_, ?_, ?_, hF⟩, rfl, hT.weaken hM⟩
  · have hl := RepL.length hr
    show Rep w μ0 _ (as.getD i (.sc undef)) _
    simp only [Array.getD_eq_getD_getElem?, List.getD_eq_getElem?_getD]
    by_cases hi : i < as.length
    · obtain ⟨v, h1, h2⟩ := RepL.get hr i _ (List.getElem?_eq_getElem hi)
      rw [List.getElem?_eq_getElem hi, Array.getElem?_append_left (by simp; omega)]
      simp only [List.getElem?_toArray, h1, Option.getD_some]
      exact Rep.mono ⟨Nat.le_refl _, fun _ _ _ => rfl, fun _ _ _ h => h, fun b _ h => hM b h⟩ _ _ h2
    · rw [List.getElem?_eq_none (by omega), Array.getElem?_append_right (by simp; omega), Array.getElem?_replicate]
      split <;> simp [Rep]
  · intro k g st cs h1 h2
    simp only [Ab.init] at h1
    cases h1
    exact absurd rfl h2
  · intro k g st cs k' g' st' cs' c L A L' A' h1 h2
    simp only [Ab.init] at h1
    cases h1
    exact absurd rfl h2
  · intro k g c L A h
    simp [μ0] at h
  · intro k g st cs h g' hg
    rfl
  · intro k
    exact ⟨0, 0, [], rfl⟩
theorem spec_of_awp (hm : P.follows .mixedOrders = true) {f : FuncId} {fn : Func} {c : Code} (hf : P.funcs[f]? = some fn) (hb : fn.body = some c) (hen : ∀ args w, (callFunc f args).run P w = .ok (.enter f args) w)
    {as : List AV} {r : AV} (hc : codeOK fn.ntmps c = true) (hl : as.length ≤ fn.ntmps) (hr : r.pure = true) (h : AWP P 0 c (Ret P fn r) (init as)) : Spec P f as r := by
  refine ⟨hen, fun F w vs hF hT hrep => ?_, hr⟩
  have hlen := RepL.length hrep
  refine calls_of_wp hf hb ?_
  have sim := Sim.init (n := fn.ntmps) hF hT hrep
  have hnt : (vs.toArray ++ Array.replicate (fn.ntmps - vs.toArray.size) undef).size = fn.ntmps := by simp; omega
  refine wp_mono (AWP.sound (nt := fn.ntmps) hm c _ _ hc h μ0 _ w sim hnt) fun e a' w' hq => ?_
  have fin : ∀ s' μ', (∃ l r' ks, ares P s' fn.results.toList = some l ∧ frz (fun k => s' (.h k)) (tupA l) = some (r', ks) ∧ Wk r' r) → Sim F s' μ' a' w' → Step (init as) μ0 w s' μ' w' →
      a'.defers = [] ∧ ∃ v, (results fn a'.tmps).run P w' = .ok v w' ∧ (Rep w' μ0 F r v ∧ Ext M0 w w') := by
    rintro s' μ' ⟨l, r', ks, h1, h2, h3⟩ s1 s2
    refine ⟨s1.df, ?_⟩
    obtain ⟨vs', h4, h5⟩ := ares_ok s1 _ _ h1
    have hl5 := RepL.length h5
    have hres : ∃ v, (results fn a'.tmps).run P w' = .ok v w' ∧ Rep w' μ' (Mof F s' μ') (tupA l) v := by
      have h4' : (fn.results.mapM fun | .tmp t => pure (a'.tmps.getD t undef) | .cell ad t => do loadVar t (← asAddr (a'.tmps.getD ad undef)) : Sem (Array Value)).run P w' = .ok vs'.toArray w' := by
        rw [← Array.toArray_toList (xs := fn.results), List.mapM_toArray]
        simp only [Sem.run_map, h4]
        rfl
      have hrr : (results fn a'.tmps).run P w' = .ok (if h : vs'.toArray.size = 1 then vs'.toArray[0] else .tuple vs'.toArray) w' := by
        unfold results
        rw [Sem.run_bind]
        exact congrArg (fun r => Result.andThen r fun (vs : Array Value) w => .ok (if h : vs.size = 1 then vs[0] else .tuple vs) w) h4'
      rw [hrr]
      by_cases h1 : vs'.length = 1
      · obtain ⟨v, rfl⟩ := List.length_eq_one_iff.1 h1
        obtain ⟨x, rfl⟩ := List.length_eq_one_iff.1 (hl5.trans h1)
        refine ⟨v, by simp, ?_⟩
        simp only [RepL] at h5
        exact h5.1
      · refine ⟨.tuple vs'.toArray, by simp [h1], ?_⟩
        have : tupA l = .tup l := by
          match l, hl5 with
          | [], _ => rfl
          | [_], h => simp at h; omega
          | _ :: _ :: _, _ => rfl
        rw [this]
        simp only [Rep]
        exact ⟨_, rfl, h5⟩
    obtain ⟨v, h6, h7⟩ := hres
    refine ⟨v, h6, ?_, ?_⟩
    · have hsub : Sub (fun k => s' (.h k)) s' := fun _ _ _ _ h => h
      have hsites := frz_sites _ _ _ h2
      obtain ⟨f1, f2, f3⟩ := freeze_all ks s' s1.hp hsites.2
      have := frz_rep s1.hp f1 f2 hsub _ _ _ _ h2 (fun k hk => by rw [f3, if_pos hk]) h7
      exact h3 _ _ _ _ (Rep.ghost (fun b hb => .inl hb) _ _ hsites.1 this)
    · exact s2.ext.weaken fun c _ hc => (Wof_init as c hc).elim
  cases e with
  | normal => obtain ⟨s', μ', q1, q2, q3, _⟩ := hq; exact fin s' μ' q1 q2 q3
  | ret => obtain ⟨s', μ', q1, q2, q3, _⟩ := hq; exact fin s' μ' q1 q2 q3
  | outgrown => exact hq.elim
  | exit _ => obtain ⟨s', μ', q1, _⟩ := hq; exact q1.elim
  | goto _ => obtain ⟨s', μ', q1, _⟩ := hq; exact q1.elim
  | panic _ => obtain ⟨s', μ', q1, _⟩ := hq; exact q1.elim
end
end Go.Ab
end
section
namespace Go.Ab
open Go
def initH (as L : List AV) : S
  | .t i => as.getD i (.sc undef)
  | .h k => if k = KA then .blk 1 2 L else .blk 0 0 []
def RetH (P : Program) (fn : Func) (r : AV) (G : Nat) (L' : List AV) : Exit → S → Prop
  | .normal, s | .ret, s => ∃ l l' ks, ares P s fn.results.toList = some l ∧ frzHL (fun k => s (.h k)) KA l = some (l', ks) ∧ ks.contains KA = false ∧ s (.h KA) = .blk G 2 L' ∧ L'.all AV.fz = true ∧ (tupA l').keep KA G = true ∧ Wk (tupA l') r
  | _, _ => False
section
variable {P : Program} {F : Nat → Prop} {s : S} {μ : Mu} {a : Act} {w : World} {M : Nat → Prop}
theorem Wof_initH {as L : List AV} {c n A b : Nat} : Wof (initH as L) (μ1 1 c n A) b ↔ b = c := by
  constructor
  · rintro ⟨k, g, cs, L1, A1, h1, h2⟩
    simp only [μ1] at h2
    split at h2
    · cases h2; rfl
    · cases h2
  · rintro rfl
    exact ⟨KA, 1, L, n, A, by simp [initH], μ1_at _ _ _ _⟩
theorem Sim.initH {as L : List AV} {vs : List Value} {n c A : Nat} (hF : ∀ c, F c → c < w.heap.size) (hc : c < w.heap.size) (hcF : ¬ F c) (hold : Holds w (fun b => F b ∨ b = c) c A L) (hT : TabOK w (fun b => F b ∨ b = c)) (hr : RepL w (μ1 1 c L.length A) (fun b => F b ∨ b = c) as vs) :
    Sim F (Ab.initH as L) (μ1 1 c L.length A) { tmps := vs.toArray ++ Array.replicate (n - vs.toArray.size) undef, defers := [] } w := by
  have hM : ∀ b, Mof F (Ab.initH as L) (μ1 1 c L.length A) b → F b ∨ b = c := fun b hb => hb.imp id fun h => Wof_initH.1 h
  have hk : ∀ k g st cs, Ab.initH as L (.h k) = .blk g st cs → st ≠ 0 → k = KA ∧ g = 1 ∧ cs = L := by
    intro k g st cs h1 h2
    simp only [Ab.initH] at h1
    split at h1
    · cases h1; exact ⟨by assumption, rfl, rfl⟩
    · cases h1; exact absurd rfl h2
  have hm : ∀ k g c' L' A', μ1 1 c L.length A k g = some (c', L', A') → c' = c := by
    intro k g c' L' A' h
    simp only [μ1] at h
    split at h
    · cases h; rfl
    · cases h
  refine ⟨fun i => ?_, ⟨?_, ?_, ?_, ?_, ?_, hF⟩, rfl, hT.weaken hM⟩
  · have hl := RepL.length hr
    show Rep w _ _ (as.getD i (.sc undef)) _
    simp only [Array.getD_eq_getD_getElem?, List.getD_eq_getElem?_getD]
    by_cases hi : i < as.length
    · obtain ⟨v, h1, h2⟩ := RepL.get hr i _ (List.getElem?_eq_getElem hi)
      rw [List.getElem?_eq_getElem hi, Array.getElem?_append_left (by simp; omega)]
      simp only [List.getElem?_toArray, h1, Option.getD_some]
      exact Rep.mono ⟨Nat.le_refl _, fun _ _ _ => rfl, fun _ _ _ h => h, fun b _ h => hM b h⟩ _ _ h2
    · rw [List.getElem?_eq_none (by omega), Array.getElem?_append_right (by simp; omega), Array.getElem?_replicate]
      split <;> simp [Rep]
  · intro k g st cs h1 h2
    obtain ⟨rfl, rfl, rfl⟩ := hk k g st cs h1 h2
    obtain ⟨arr, e, f, a1, a2, a3, a4, a5⟩ := hold
    refine ⟨c, A, arr, e, f, μ1_at _ _ _ _, a1, a2, a3, a4, fun i x hx => ?_⟩
    obtain ⟨h3, v, h4, h5⟩ := a5 i x hx
    exact ⟨AV.one_of_fz h3, v, h4, Rep.ghost hM x v (AV.pure_of_fz h3) h5⟩
  · intro k g st cs k' g' st' cs' c L A L' A' h1 h2 h3 h4 _ _
    rw [(hk k g st cs h1 h2).1, (hk k' g' st' cs' h3 h4).1]
  · intro k g c' L' A' h
    rw [hm _ _ _ _ _ h]
    exact ⟨hc, hcF⟩
  · intro k g st cs h g' hg
    simp only [Ab.initH] at h
    split at h
    · cases h
      simp only [μ1]
      rw [if_neg (by omega)]
    · cases h
      simp only [μ1]
      rename_i hne
      rw [if_neg (fun hh => hne hh.1)]
  · intro k
    by_cases h : k = KA
    · exact ⟨1, 2, L, by simp [Ab.initH, h]⟩
    · exact ⟨0, 0, [], by simp [Ab.initH, h]⟩
theorem specH_of_awp (hm : P.follows .mixedOrders = true) {f : FuncId} {fn : Func} {c : Code} (hf : P.funcs[f]? = some fn) (hb : fn.body = some c) (hen : ∀ args w, (callFunc f args).run P w = .ok (.enter f args) w)
    {as L L' : List AV} {r : AV} {G : Nat} (hc : codeOK fn.ntmps c = true) (hl : as.length ≤ fn.ntmps) (hr : r.keep KA G = true) (hG : 1 ≤ G) (hlen : G = 1 → L'.length = L.length) (h : AWP P 0 c (RetH P fn r G L') (initH as L)) : SpecH P f as L r G L' := by
  refine ⟨hen, fun F w vs cb A hF hcb hcF hold hT hrep => ?_, hr, hG⟩
  have hlen' := RepL.length hrep
  refine calls_of_wp hf hb ?_
  have sim := Sim.initH (n := fn.ntmps) hF hcb hcF hold hT hrep
  have hnt : (vs.toArray ++ Array.replicate (fn.ntmps - vs.toArray.size) undef).size = fn.ntmps := by simp; omega
  refine wp_mono (AWP.sound (nt := fn.ntmps) hm c _ _ hc h _ _ w sim hnt) fun e a' w' hq => ?_
  have fin : ∀ s' μ', (∃ l l' ks, ares P s' fn.results.toList = some l ∧ frzHL (fun k => s' (.h k)) KA l = some (l', ks) ∧ ks.contains KA = false ∧ s' (.h KA) = .blk G 2 L' ∧ L'.all AV.fz = true ∧ (tupA l').keep KA G = true ∧ Wk (tupA l') r) → Sim F s' μ' a' w' → Step (initH as L) (μ1 1 cb L.length A) w s' μ' w' →
      a'.defers = [] ∧ ∃ v, (results fn a'.tmps).run P w' = .ok v w' ∧ ∃ c' A', (c' = cb ∨ w.heap.size ≤ c') ∧ c' < w'.heap.size ∧ (G = 1 → c' = cb ∧ A' = A ∧ L'.length = L.length) ∧ Holds w' (fun b => F b ∨ b = c') c' A' L' ∧ Rep w' (μ1 G c' L'.length A') (fun b => F b ∨ b = c') r v ∧ Ext (fun b => b = cb) w w' := by
    rintro s' μ' ⟨l, l', ks, h1, h2, h2a, h2b, h2c, h2d, h3⟩ s1 s2
    refine ⟨s1.df, ?_⟩
    obtain ⟨vs', hrr, h5⟩ := ares_results s1 h1
    have hsub : Sub (fun k => s' (.h k)) s' := fun _ _ _ _ h => h
    have hsites := frzHL_sites _ _ _ h2
    obtain ⟨f1, f2, f3⟩ := freeze_all ks s' s1.hp hsites
    have hkn : KA ∉ ks := by simpa using h2a
    have h5 := frzHL_rep s1.hp f1 f2 hsub _ _ _ _ h2 (fun k hk => by rw [f3, if_pos hk]) h5
    have hsk : appH s' (ks.map fun k => (k, fzn (s' (.h k)))) (.h KA) = .blk G 2 L' := by rw [f3, if_neg hkn, h2b]
    generalize hs1 : appH s' (ks.map fun k => (k, fzn (s' (.h k)))) = s1' at *
    have hl5 := RepL.length h5
    have hres : ∃ v, (results fn a'.tmps).run P w' = .ok v w' ∧ Rep w' μ' (Mof F s1' μ') (tupA l') v := by
      rw [hrr]
      by_cases h1 : vs'.length = 1
      · obtain ⟨v, rfl⟩ := List.length_eq_one_iff.1 h1
        obtain ⟨x, rfl⟩ := List.length_eq_one_iff.1 (hl5.trans h1)
        refine ⟨v, by simp, ?_⟩
        simp only [RepL] at h5
        exact h5.1
      · refine ⟨.tuple vs'.toArray, by simp [h1], ?_⟩
        have : tupA l' = .tup l' := by
          match l', hl5 with
          | [], _ => rfl
          | [_], h => simp at h; omega
          | _ :: _ :: _, _ => rfl
        rw [this]
        simp only [Rep]
        exact ⟨_, rfl, h5⟩
    obtain ⟨v, h6, h7⟩ := hres
    obtain ⟨c', A', arr, e', f', r1, r2, r3, r4, r5, r6⟩ := f1.row KA G 2 L' hsk (by decide)
    have hM : ∀ b, F b ∨ b = c' → Mof F s1' μ' b := fun b hb => by
      rcases hb with hb | rfl
      · exact .inl hb
      · exact .inr ⟨KA, G, L', _, A', hsk, r1⟩
    have hcs := (f1.old _ _ _ _ _ r1).1
    refine ⟨v, h6, c', A', ?_, hcs, ?_, ⟨arr, e', f', r2, r3, r4, r5, fun i x hx => ?_⟩, ?_, ?_⟩
    · rcases Nat.lt_or_ge c' w.heap.size with h | h
      · exact .inl (Wof_initH.1 ((s2.trans f2).mof c' h ⟨KA, G, L', _, A', hsk, r1⟩))
      · exact .inr h
    · rintro rfl
      have := s2.mu KA 1 _ (μ1_at _ _ _ _)
      rw [r1] at this
      simp only [Option.some.injEq, Prod.mk.injEq] at this
      exact ⟨this.1, this.2.2, hlen rfl⟩
    · have hfz : x.fz = true := by simp only [List.all_eq_true] at h2c; exact h2c x (List.mem_of_getElem? hx)
      obtain ⟨_, v, j2, j3⟩ := r6 i x hx
      exact ⟨hfz, v, j2, Rep.ghost hM x v (AV.pure_of_fz hfz) j3⟩
    · have := Rep.to (k := KA) (g := G) (k2 := KA) (g2 := G) (μ' := μ1 G c' L'.length A') hM (by rw [μ1_at, r1]) _ _ h2d h7
      rw [AV.to_self _ h2d] at this
      exact h3 _ _ _ _ this
    · exact s2.ext.weaken fun b _ hb => Wof_initH.1 hb
  cases e with
  | normal => obtain ⟨s', μ', q1, q2, q3, _⟩ := hq; exact fin s' μ' q1 q2 q3
  | ret => obtain ⟨s', μ', q1, q2, q3, _⟩ := hq; exact fin s' μ' q1 q2 q3
  | outgrown => exact hq.elim
  | exit _ => obtain ⟨s', μ', q1, _⟩ := hq; exact q1.elim
  | goto _ => obtain ⟨s', μ', q1, _⟩ := hq; exact q1.elim
  | panic _ => obtain ⟨s', μ', q1, _⟩ := hq; exact q1.elim
end
def RetO (P : Program) (fn : Func) (k g : Nat) (r : AV) (L : List AV) : Exit → S → Prop
  | .normal, s | .ret, s => ∃ l l' ks, ares P s fn.results.toList = some l ∧ frzHL (fun k => s (.h k)) k l = some (l', ks) ∧ ks.contains k = false ∧ s (.h k) = .blk g 2 L ∧ L.all AV.fz = true ∧ (tupA l').keep k g = true ∧ Wk ((tupA l').to KA 1) r
  | _, _ => False
section
variable {P : Program} {F : Nat → Prop} {s : S} {μ : Mu} {a : Act} {w : World} {M : Nat → Prop}
theorem specO_of_awp (k g : Nat) (hm : P.follows .mixedOrders = true) {f : FuncId} {fn : Func} {c : Code} (hf : P.funcs[f]? = some fn) (hb : fn.body = some c) (hen : ∀ args w, (callFunc f args).run P w = .ok (.enter f args) w)
    {as L : List AV} {r : AV} (hc : codeOK fn.ntmps c = true) (hl : as.length ≤ fn.ntmps) (hr : r.keep KA 1 = true) (h : AWP P 0 c (RetO P fn k g r L) (init as)) : SpecO P f as r L := by
  refine ⟨hen, fun F w vs hF hT hrep => ?_, hr⟩
  have hlen := RepL.length hrep
  refine calls_of_wp hf hb ?_
  have sim := Sim.init (n := fn.ntmps) hF hT hrep
  have hnt : (vs.toArray ++ Array.replicate (fn.ntmps - vs.toArray.size) undef).size = fn.ntmps := by simp; omega
  refine wp_mono (AWP.sound (nt := fn.ntmps) hm c _ _ hc h μ0 _ w sim hnt) fun e a' w' hq => ?_
  have fin : ∀ s' μ', (∃ l l' ks, ares P s' fn.results.toList = some l ∧ frzHL (fun k => s' (.h k)) k l = some (l', ks) ∧ ks.contains k = false ∧ s' (.h k) = .blk g 2 L ∧ L.all AV.fz = true ∧ (tupA l').keep k g = true ∧ Wk ((tupA l').to KA 1) r) → Sim F s' μ' a' w' → Step (init as) μ0 w s' μ' w' →
      a'.defers = [] ∧ ∃ v, (results fn a'.tmps).run P w' = .ok v w' ∧ ∃ c A, w.heap.size ≤ c ∧ c < w'.heap.size ∧ Holds w' (fun b => F b ∨ b = c) c A L ∧ Rep w' (μ1 1 c L.length A) (fun b => F b ∨ b = c) r v ∧ Ext M0 w w' := by
    rintro s' μ' ⟨l, l', ks, h1, h2, h2a, h2b, h2c, h2d, h3⟩ s1 s2
    refine ⟨s1.df, ?_⟩
    obtain ⟨vs', hrr, h5⟩ := ares_results s1 h1
    have hsub : Sub (fun k => s' (.h k)) s' := fun _ _ _ _ h => h
    have hsites := frzHL_sites _ _ _ h2
    obtain ⟨f1, f2, f3⟩ := freeze_all ks s' s1.hp hsites
    have hkn : k ∉ ks := by simpa using h2a
    have h5 := frzHL_rep s1.hp f1 f2 hsub _ _ _ _ h2 (fun k hk => by rw [f3, if_pos hk]) h5
    have hsk : appH s' (ks.map fun k => (k, fzn (s' (.h k)))) (.h k) = .blk g 2 L := by rw [f3, if_neg hkn, h2b]
    generalize hs1 : appH s' (ks.map fun k => (k, fzn (s' (.h k)))) = s1' at *
    have hl5 := RepL.length h5
    have hres : ∃ v, (results fn a'.tmps).run P w' = .ok v w' ∧ Rep w' μ' (Mof F s1' μ') (tupA l') v := by
      rw [hrr]
      by_cases h1 : vs'.length = 1
      · obtain ⟨v, rfl⟩ := List.length_eq_one_iff.1 h1
        obtain ⟨x, rfl⟩ := List.length_eq_one_iff.1 (hl5.trans h1)
        refine ⟨v, by simp, ?_⟩
        simp only [RepL] at h5
        exact h5.1
      · refine ⟨.tuple vs'.toArray, by simp [h1], ?_⟩
        have : tupA l' = .tup l' := by
          match l', hl5 with
          | [], _ => rfl
          | [_], h => simp at h; omega
          | _ :: _ :: _, _ => rfl
        rw [this]
        simp only [Rep]
        exact ⟨_, rfl, h5⟩
    obtain ⟨v, h6, h7⟩ := hres
    obtain ⟨c', A', arr, e', f', r1, r2, r3, r4, r5, r6⟩ := f1.row k g 2 L hsk (by decide)
    have hM : ∀ b, F b ∨ b = c' → Mof F s1' μ' b := fun b hb => by
      rcases hb with hb | rfl
      · exact .inl hb
      · exact .inr ⟨k, g, L, _, A', hsk, r1⟩
    have hcs := (f1.old _ _ _ _ _ r1).1
    refine ⟨v, h6, c', A', ?_, hcs, ⟨arr, e', f', r2, r3, r4, r5, fun i x hx => ?_⟩, ?_, ?_⟩
    · rcases Nat.lt_or_ge c' w.heap.size with h | h
      · exact (Wof_init as c' ((s2.trans f2).mof c' h ⟨k, g, L, _, A', hsk, r1⟩)).elim
      · exact h
    · have hfz : x.fz = true := by simp only [List.all_eq_true] at h2c; exact h2c x (List.mem_of_getElem? hx)
      obtain ⟨_, v, j2, j3⟩ := r6 i x hx
      exact ⟨hfz, v, j2, Rep.ghost hM x v (AV.pure_of_fz hfz) j3⟩
    · have := Rep.to (k := k) (g := g) (k2 := KA) (g2 := 1) (μ' := μ1 1 c' L.length A') hM (by rw [μ1_at, r1]) _ _ h2d h7
      exact h3 _ _ _ _ this
    · exact s2.ext.weaken fun c _ hc => (Wof_init as c hc).elim
  cases e with
  | normal => obtain ⟨s', μ', q1, q2, q3, _⟩ := hq; exact fin s' μ' q1 q2 q3
  | ret => obtain ⟨s', μ', q1, q2, q3, _⟩ := hq; exact fin s' μ' q1 q2 q3
  | outgrown => exact hq.elim
  | exit _ => obtain ⟨s', μ', q1, _⟩ := hq; exact q1.elim
  | goto _ => obtain ⟨s', μ', q1, _⟩ := hq; exact q1.elim
  | panic _ => obtain ⟨s', μ', q1, _⟩ := hq; exact q1.elim
end
end Go.Ab
end

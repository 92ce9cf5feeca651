import Derived.Test.YtgffficaoioljaaRk3
import Derived.Lib.SmallJoins
import Derived.ChangeArms
section
namespace Go.Proofs.YtgffficaoioljaaW.PrintWords
open Go.ChangeShapes Go.WideShapes Go.ChangeAt Go.RowKit Go.Joins Go.Deep
def IsRowW (k : IntKind) (w : World) (a : Option Addr) (len cap : Nat) (zs : List Int) : Prop :=
 (a = none ∧ len = 0 ∧ cap = 0 ∧ zs = []) ∨
 ∃ x, a = some x ∧ len ≤ cap ∧ cap ≤ maxLen ∧ zs.length = cap ∧ (∀ i, i < zs.length → w.cell? (x.add i) = some (.int k (zs.getD i 0))) ∧ ∀ n ∈ zs, (Lit.int k n).wf = true
theorem open_ints_at {H : Type} {enc : TypeId × Value → H} {P : Program} {W : World} {base : Nat} {held : Bool} {t e : TypeId} {v : Value} {n : Nat} {y : DataW H × List MemPlace} {ts : List TypeId} {ds : List (DataW H)} {j : Nat}
  (hsz : (DataW.weightsEach P ts ds).all (· ≤ reachBytes) = true) (ht : ts[j]? = some t) (hd : ds[j]? = some y.1) (hu : P.underlying t = some (.slice e)) (he : P.underlying e = some (.int .u32)) (hc : P.cellsOf e = 1) (hB : P.bytesOf e = 4)
  (h : DataW.trod enc P W base (fun _ => true) held n t [v] = some y) : ∃ a len cap zs, v = .slice a len cap ∧ IsRowW .u32 W a len cap zs ∧ len * 4 ≤ 140737488351232 := by
 have key : ∀ a len cap, v = .slice a len cap → len * 4 ≤ 140737488351232 := fun a len cap e1 =>
  sized_ints (enc := enc) (W := W) (base := base) (spare := fun _ => true) (held := held) (ps := y.2) hsz ht hd hu he hc hB ⟨n, by rw [e1] at h; simpa [Value.cells] using h⟩
 rcases open_ints hu he hc h with ⟨hcs, _⟩ | ⟨x, l, c, zs, hcs, _, hl, hm, hz, _, hcell, hwz⟩
 ·obtain ⟨rfl, _⟩ := List.cons.inj hcs
  exact ⟨none, 0, 0, [], rfl, .inl ⟨rfl, rfl, rfl, rfl⟩, by simp⟩
 ·obtain ⟨rfl, _⟩ := List.cons.inj hcs
  exact ⟨some x, l, c, zs, rfl, .inr ⟨x, rfl, hl, hm, by simpa using hz, hcell, hwz⟩, key _ _ _ rfl⟩
theorem open_ratio {H : Type} {enc : TypeId × Value → H} {P : Program} {W : World} {base : Nat} {held : Bool} {r : Reach} {b0 : Nat} {t e : TypeId} {f0 f1 f2 : Field} {v : Value} {d : DataW H} {p : List MemPlace} {ts : List TypeId} {ds : List (DataW H)} {j : Nat}
  (hsz : (DataW.weightsEach P ts ds).all (· ≤ reachBytes) = true) (ht : ts[j]? = some t) (hd : ds[j]? = some d) (hs : P.underlying t = some (.struct #[f0, f1, f2])) (hone : oneCellFields P #[f0, f1, f2] = true) (hC : P.cellsOf t = 3)
  (u0 : P.underlying f0.type = some .bool) (u1 : P.underlying f1.type = some (.slice e)) (u2 : P.underlying f2.type = some (.slice e)) (he : P.underlying e = some (.int .u32)) (hc : P.cellsOf e = 1) (hB : P.bytesOf e = 4)
  (hv : Value.okWide P W r b0 t v) (h : DataW.Trod enc P W base (fun _ => true) held t v d p) :
  ∃ (b : Bool) (a1 : Option Addr) (len1 cap1 : Nat) (z1 : List Int) (a2 : Option Addr) (len2 cap2 : Nat) (z2 : List Int), v = .agg #[.bool b, .slice a1 len1 cap1, .slice a2 len2 cap2] ∧
   IsRowW .u32 W a1 len1 cap1 z1 ∧ len1 * 4 ≤ 140737488351232 ∧ IsRowW .u32 W a2 len2 cap2 z2 ∧ len2 * 4 ≤ 140737488351232 := by
 obtain ⟨v0, v1, v2, y0, y1, y2, n, rfl, rfl, rfl, t0, t1, t2⟩ := open_agg3 hs hone hC hv h
 have hz : (DataW.weightsEach P [f0.type, f1.type, f2.type] [y0.1, y1.1, y2.1]).all (· ≤ reachBytes) = true := by
  refine List.all_eq_true.2 fun x hx => List.all_eq_true.1 hsz x (DataW.weights_mem_each ht hd x ?_)
  simpa [DataW.weights, hs] using hx
 obtain ⟨b, hb, _⟩ := DataW.trod_bool u0 t0
 obtain ⟨rfl, _⟩ := List.cons.inj hb
 obtain ⟨a1, len1, cap1, z1, rfl, w1, s1⟩ := open_ints_at (j := 1) hz rfl rfl u1 he hc hB t1
 obtain ⟨a2, len2, cap2, z2, rfl, w2, s2⟩ := open_ints_at (j := 2) hz rfl rfl u2 he hc hB t2
 exact ⟨b, a1, len1, cap1, z1, a2, len2, cap2, z2, rfl, w1, s1, w2, s2⟩
end Go.Proofs.YtgffficaoioljaaW.PrintWords
end

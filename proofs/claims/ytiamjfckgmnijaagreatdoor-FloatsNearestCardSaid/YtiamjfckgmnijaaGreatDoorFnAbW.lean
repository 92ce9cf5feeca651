import Derived.Test.YtiamjfckgmnijaaGreatDoorFnF
import Derived.Test.YtiamjfckgmnijaaGreatDoorRows
import Derived.LaidMore
import Derived.Lay
import Derived.LaidLaws
import Derived.OpenShut
import Derived.FnData
import Derived.MakeChecks
set_option linter.all false
section
namespace Go.Ab
open Go Go.Proofs
set_option maxRecDepth 100000
theorem arr_tab {P : Program} {W : World} {nm : String} {g t n e fuel : Nat} {k : IntKind} {p : List MemPlace} {cs : Array Value} (zs : List Int) (hg : P.globalNamed nm = some g) (hv : W.var? P nm = some cs) (ht : P.underlying t = some (.array n e))
    (he : P.underlying e = some (.int k)) (hc : P.cellsOf e = 1) (hlen : zs.length = n) (hct : P.cellsOf t = n) (hd : DataW.trod (fun _ => ()) P W 0 (fun _ => true) false fuel t cs.toList = some (.agg (zs.map fun z => .lit (.int k z)), p)) : g < W.heap.size ∧ (∀ (i : Nat) (u : Value), (zs.map (Value.int k))[i]? = some u → W.cell? ⟨g, i, none⟩ = some u) ∧ ∃ ty z, W.heap[g]? = some (.cells (zs.map (Value.int k)).toArray ty z) := by
  obtain ⟨xs, m, _, ex, hcs, hl, hel⟩ := DataW.trod_array ht hd
  have e3 : xs.map (·.1) = zs.map fun z => .lit (.int k z) := (DataW.agg.inj (Prod.mk.inj ex).1).symm
  have key : ∀ (i : Nat) (u : Value), (zs.map (Value.int k))[i]? = some u → cs.toList[i]? = some u := by
    intro i u hu
    rw [List.getElem?_map, Option.map_eq_some_iff] at hu
    obtain ⟨z, hz, rfl⟩ := hu
    have hi : i < zs.length := by
      rcases Nat.lt_or_ge i zs.length with h | h
      · exact h
      · rw [List.getElem?_eq_none h] at hz; cases hz
    have hE := hel i (by omega)
    rw [hc, Nat.mul_one, List.getElem?_eq_getElem (by omega)] at hE
    obtain ⟨y, e1, e2, _⟩ := DataW.trod_int he hE
    have e4 : (xs.map (·.1))[i]? = (zs.map fun z => (DataW.lit (.int k z) : DataW Unit))[i]? := by rw [e3]
    rw [List.getElem?_map, List.getElem?_map, List.getElem?_eq_getElem (by omega : i < xs.length), hz, e2] at e4
    simp only [Option.map_some, Option.some.injEq, DataW.lit.injEq, Lit.int.injEq, true_and] at e4
    subst e4
    have h0 : ((cs.toList.drop i).take 1)[0]? = some (.int k y) := by rw [e1]; rfl
    simpa using h0
  have ecs : cs.toList = zs.map (Value.int k) := by
    refine List.ext_getElem? fun i => ?_
    rcases Nat.lt_or_ge i zs.length with h | h
    · have h2 : (zs.map (Value.int k))[i]? = some (Value.int k zs[i]) := by rw [List.getElem?_map, List.getElem?_eq_getElem h]; rfl
      rw [h2, key i _ h2]
    · rw [List.getElem?_eq_none (by omega), List.getElem?_eq_none (by simp; omega)]
  refine ⟨?_, fun i u hu => ?_, ?_⟩
  · have : ∃ b, W.heap[g]? = some b := by
      cases hb : W.heap[g]? with
      | none => simp [World.var?, hg, hb] at hv
      | some b => exact ⟨b, rfl⟩
    obtain ⟨b, hb⟩ := this
    exact (Array.getElem?_eq_some_iff.1 hb).1
  · rw [World.var?_cell hg hv i]
    simpa using key i u hu
  · have e5 : cs = (zs.map (Value.int k)).toArray := by rw [← ecs]
    rw [← e5]
    simp only [World.var?, hg, Option.bind_some] at hv
    split at hv
    · rename_i c ty z h
      cases hv
      exact ⟨ty, z, h⟩
    · cases hv
theorem iface_laid {P : Program} {W : World} {t fuel : Nat} {ms : Array (String × TypeId)} {nm : String} {d : DataW Unit} {p : List MemPlace} {l : List Value} (ht : P.underlying t = some (.interface ms)) (hd : DataW.trod (fun _ => ()) P W 0 (fun _ => true) false fuel t l = some (.iface nm d, p)) : ∃ u v, l = [.iface u v] := by
  cases fuel with
  | zero => simp [DataW.trod] at hd
  | succ m =>
    unfold DataW.trod at hd
    rw [ht] at hd
    split at hd <;> simp_all
theorem err_laid {P : Program} {W : World} {nm nm' : String} {g t fuel : Nat} {ms : Array (String × TypeId)} {d : DataW Unit} {p : List MemPlace} {cs : Array Value} (hg : P.globalNamed nm = some g) (hv : W.var? P nm = some cs) (ht : P.underlying t = some (.interface ms)) (hd : DataW.trod (fun _ => ()) P W 0 (fun _ => true) false fuel t cs.toList = some (.iface nm' d, p)) :
    g < W.heap.size ∧ ∃ te pe, W.cell? ⟨g, 0, none⟩ = some (.iface te pe) := by
  obtain ⟨u, v, e⟩ := iface_laid ht hd
  refine ⟨?_, u, v, ?_⟩
  · have : ∃ b, W.heap[g]? = some b := by
      cases hb : W.heap[g]? with
      | none => simp [World.var?, hg, hb] at hv
      | some b => exact ⟨b, rfl⟩
    obtain ⟨b, hb⟩ := this
    exact (Array.getElem?_eq_some_iff.1 hb).1
  · rw [World.var?_cell hg hv 0]
    have h0 : cs.toList[0]? = some (.iface u v) := by rw [e]; rfl
    simpa using h0
def laidL : List (String × DataW Unit) := [("math/bits.deBruijn32tab", YtiamjfckgmnijaaGreatDoor.Rows.laid_math_bits_deBruijn32tab), ("math/bits.deBruijn64tab", YtiamjfckgmnijaaGreatDoor.Rows.laid_math_bits_deBruijn64tab), ("internal/strconv.uint64pow10", YtiamjfckgmnijaaGreatDoor.Rows.laid_internal_strconv_uint64pow10), ("strconv.ErrRange", YtiamjfckgmnijaaGreatDoor.Rows.laid_strconv_ErrRange), ("strconv.ErrSyntax", YtiamjfckgmnijaaGreatDoor.Rows.laid_strconv_ErrSyntax)]
theorem tabs_ok {W : World} (h : laidMetH Tryz.prog laidL W) : TabOK W M0 := by
  rw [MakeChecks.laidMetH_plain _ _ _ (by kernel_rfl)] at h
  obtain ⟨ps, ⟨g0, t0, cs0, fu0, p0, q0, hg0, ht0, hv0, hd0, ⟨g1, t1, cs1, fu1, p1, q1, hg1, ht1, hv1, hd1, ⟨g2, t2, cs2, fu2, p2, q2, hg2, ht2, hv2, hd2, ⟨g3, t3, cs3, fu3, p3, q3, hg3, ht3, hv3, hd3, ⟨g4, t4, cs4, fu4, p4, q4, hg4, ht4, hv4, hd4, _, _⟩, _⟩, _⟩, _⟩, _⟩, _, _⟩ := h
  obtain rfl := Option.some.inj ((show Tryz.prog.globalNamed "math/bits.deBruijn32tab" = some 6 by kernel_rfl).symm.trans hg0)
  obtain rfl := Option.some.inj ((show (Tryz.prog.globals[6]?).map (·.type) = some 147 by kernel_rfl).symm.trans ht0)
  have f6 := arr_tab (P := Tryz.prog) (W := W) (t := 147) (n := 32) (e := 5) (k := .u8) [0, 1, 28, 2, 29, 14, 24, 3, 30, 22, 20, 15, 25, 17, 4, 8, 31, 27, 13, 23, 21, 19, 16, 7, 26, 12, 18, 6, 11, 5, 10, 9] hg0 hv0 (by kernel_rfl) (by kernel_rfl) (by kernel_rfl) rfl (by kernel_rfl) hd0
  obtain rfl := Option.some.inj ((show Tryz.prog.globalNamed "math/bits.deBruijn64tab" = some 1 by kernel_rfl).symm.trans hg1)
  obtain rfl := Option.some.inj ((show (Tryz.prog.globals[1]?).map (·.type) = some 106 by kernel_rfl).symm.trans ht1)
  have f1 := arr_tab (P := Tryz.prog) (W := W) (t := 106) (n := 64) (e := 5) (k := .u8) [0, 1, 56, 2, 57, 49, 28, 3, 61, 58, 42, 50, 38, 29, 17, 4, 62, 47, 59, 36, 45, 43, 51, 22, 53, 39, 33, 30, 24, 18, 12, 5, 63, 55, 48, 27, 60, 41, 37, 16, 46, 35, 44, 21, 52, 32, 23, 11, 54, 26, 40, 15, 34, 20, 31, 10, 25, 14, 19, 9, 13, 8, 7, 6] hg1 hv1 (by kernel_rfl) (by kernel_rfl) (by kernel_rfl) rfl (by kernel_rfl) hd1
  obtain rfl := Option.some.inj ((show Tryz.prog.globalNamed "internal/strconv.uint64pow10" = some 5 by kernel_rfl).symm.trans hg2)
  obtain rfl := Option.some.inj ((show (Tryz.prog.globals[5]?).map (·.type) = some 138 by kernel_rfl).symm.trans ht2)
  have f5 := arr_tab (P := Tryz.prog) (W := W) (t := 138) (n := 20) (e := 22) (k := .u64) [1, 10, 100, 1000, 10000, 100000, 1000000, 10000000, 100000000, 1000000000, 10000000000, 100000000000, 1000000000000, 10000000000000, 100000000000000, 1000000000000000, 10000000000000000, 100000000000000000, 1000000000000000000, 10000000000000000000] hg2 hv2 (by kernel_rfl) (by kernel_rfl) (by kernel_rfl) rfl (by kernel_rfl) hd2
  obtain rfl := Option.some.inj ((show Tryz.prog.globalNamed "strconv.ErrRange" = some 4 by kernel_rfl).symm.trans hg3)
  obtain rfl := Option.some.inj ((show (Tryz.prog.globals[4]?).map (·.type) = some 85 by kernel_rfl).symm.trans ht3)
  have f4 := err_laid (P := Tryz.prog) (W := W) (t := 85) hg3 hv3 Tryz.underlying85 hd3
  obtain rfl := Option.some.inj ((show Tryz.prog.globalNamed "strconv.ErrSyntax" = some 3 by kernel_rfl).symm.trans hg4)
  obtain rfl := Option.some.inj ((show (Tryz.prog.globals[3]?).map (·.type) = some 85 by kernel_rfl).symm.trans ht4)
  have f3 := err_laid (P := Tryz.prog) (W := W) (t := 85) hg4 hv4 Tryz.underlying85 hd4
  have e : tabs = [(1, ([0, 1, 56, 2, 57, 49, 28, 3, 61, 58, 42, 50, 38, 29, 17, 4, 62, 47, 59, 36, 45, 43, 51, 22, 53, 39, 33, 30, 24, 18, 12, 5, 63, 55, 48, 27, 60, 41, 37, 16, 46, 35, 44, 21, 52, 32, 23, 11, 54, 26, 40, 15, 34, 20, 31, 10, 25, 14, 19, 9, 13, 8, 7, 6] : List Int).map (Value.int .u8)), (5, ([1, 10, 100, 1000, 10000, 100000, 1000000, 10000000, 100000000, 1000000000, 10000000000, 100000000000, 1000000000000, 10000000000000, 100000000000000, 1000000000000000, 10000000000000000, 100000000000000000, 1000000000000000000, 10000000000000000000] : List Int).map (Value.int .u64)), (6, ([0, 1, 28, 2, 29, 14, 24, 3, 30, 22, 20, 15, 25, 17, 4, 8, 31, 27, 13, 23, 21, 19, 16, 7, 26, 12, 18, 6, 11, 5, 10, 9] : List Int).map (Value.int .u8))] := rfl
  refine ⟨fun t ht => ?_, fun g hg => ?_⟩
  case' refine_2 =>
    have e2 : errs = [3, 4] := rfl
    rw [e2] at hg
    rcases List.mem_cons.1 hg with rfl | hg
    · exact ⟨f3.1, fun h => h, f3.2⟩
    rcases List.mem_cons.1 hg with rfl | hg
    · exact ⟨f4.1, fun h => h, f4.2⟩
    cases hg
  rw [e] at ht
  have hone : ∀ (k : IntKind) (zs : List Int), ∀ u ∈ zs.map (Value.int k), oneV u = true := by
    intro k zs u hu
    obtain ⟨z, _, rfl⟩ := List.mem_map.1 hu
    rfl
  rcases List.mem_cons.1 ht with rfl | ht
  · exact ⟨f1.1, fun h => h, hone _ _, f1.2.1, f1.2.2⟩
  rcases List.mem_cons.1 ht with rfl | ht
  · exact ⟨f5.1, fun h => h, hone _ _, f5.2.1, f5.2.2⟩
  rcases List.mem_cons.1 ht with rfl | ht
  · exact ⟨f6.1, fun h => h, hone _ _, f6.2.1, f6.2.2⟩
  cases ht
end Go.Ab
end

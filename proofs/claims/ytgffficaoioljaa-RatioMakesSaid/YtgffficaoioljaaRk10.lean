import Derived.Test.YtgffficaoioljaaRk1
import Derived.Test.YtgffficaoioljaaRk8
import Derived.Laws.BitsAllLaws
section
namespace Go.Proofs.Ytgffficaoioljaa.PlA
open Go.RowKit Go.Proofs.Ytgffficaoioljaa.Pl Go.Proofs.YtgffficaoioljaaW.PrintWords Go.Proofs.YtgffficaoioljaaW.PrintLast Go.Proofs.YtgffficaoioljaaW.PrintMore
theorem w64 {x : Int} (h0 : -9223372036854775808 ≤ x) (h1 : x ≤ 9223372036854775807) : wrap64 x = x := by unfold wrap64; omega
theorem u64 {x : Int} (h0 : 0 ≤ x) (h1 : x < 18446744073709551616) : IntKind.u64.wrap x = x := by
 have e : IntKind.u64.wrap x = x % 18446744073709551616 := by simp [IntKind.wrap, IntKind.bits, IntKind.signed]
 rw [e]; omega
theorem u64_mod (x : Int) : IntKind.u64.wrap x = x % 18446744073709551616 := by simp [IntKind.wrap, IntKind.bits, IntKind.signed]
theorem rd_nat (l : List Int) (i : Nat) : rd l (i : Int) = l.getD i 0 := by simp [rd]
theorem rd_of {l : List Int} {i : Nat} (h : i < l.length) : rd l (i : Int) = l[i] := by
 rw [rd_nat, List.getD_eq_getElem?_getD, List.getElem?_eq_getElem h]; rfl
theorem rd_wf {l : List Int} (hw : Wf l) {i : Nat} (h : i < l.length) : 0 ≤ rd l (i : Int) ∧ rd l (i : Int) < 4294967296 := by
 rw [rd_of h]; exact hw _ (List.getElem_mem h)
theorem take_succ {l : List Int} {i : Nat} (h : i < l.length) : l.take (i + 1) = l.take i ++ [rd l (i : Int)] := by
 rw [rd_of h, List.take_succ_eq_append_getElem h]
theorem take_set {l : List Int} {i : Nat} (h : i < l.length) (x : Int) : (l.set i x).take (i + 1) = l.take i ++ [x] := by
 rw [List.take_succ_eq_append_getElem (by simpa using h), List.take_set, List.set_eq_of_length_le (by rw [List.length_take]; omega)]
 simp
theorem val_take_succ {l : List Int} {i : Nat} (h : i < l.length) : val (l.take (i + 1)) = val (l.take i) + 4294967296 ^ i * rd l (i : Int) := by
 rw [take_succ h, val_snoc, List.length_take, Nat.min_eq_left (by omega)]
theorem val_take_set {l : List Int} {i : Nat} (h : i < l.length) (x : Int) : val ((l.set i x).take (i + 1)) = val (l.take i) + 4294967296 ^ i * x := by
 rw [take_set h, val_snoc, List.length_take, Nat.min_eq_left (by omega)]
theorem val_cut (l : List Int) (i : Nat) (h : i ≤ l.length) : val l = val (l.take i) + 4294967296 ^ i * val (l.drop i) := by
 conv => lhs; rw [← List.take_append_drop i l]
 rw [val_append, List.length_take, Nat.min_eq_left h]
theorem drop_rd {l : List Int} {i : Nat} (h : i < l.length) : l.drop i = rd l (i : Int) :: l.drop (i + 1) := by
 rw [rd_of h]; exact List.drop_eq_getElem_cons h
theorem val_drop_rd {l : List Int} {i : Nat} (h : i < l.length) : val (l.drop i) = rd l (i : Int) + 4294967296 * val (l.drop (i + 1)) := by
 rw [drop_rd h]; rfl
theorem val_take_big {l : List Int} {i : Nat} (h : l.length ≤ i) : l.take i = l := List.take_of_length_le h
theorem rd_big {l : List Int} {i : Nat} (h : l.length ≤ i) : rd l (i : Int) = 0 := by
 rw [rd_nat, List.getD_eq_getElem?_getD, List.getElem?_eq_none h]; rfl
theorem rd_set_self {l : List Int} {i : Nat} (h : i < l.length) (x : Int) : rd (l.set i x) (i : Int) = x := by
 rw [rd_of (by simpa using h)]; simp
theorem or_low {a b : Int} (h0 : 0 ≤ a) (h1 : a < 4294967296) (h2 : 0 ≤ b) (h3 : b < 4294967296) : Go.bits .or .u64 (a * 4294967296) b = a * 4294967296 + b := by
 rw [u64_or _ _ (by omega) (by omega) h2 (by omega)]
 obtain ⟨m, rfl⟩ := Int.eq_ofNat_of_zero_le h0
 obtain ⟨n, rfl⟩ := Int.eq_ofNat_of_zero_le h2
 have e : ((m : Int) * 4294967296).toNat = 2 ^ 32 * m := by omega
 rw [e, Int.toNat_natCast, ← Nat.two_pow_add_eq_or_of_lt (by omega)]
 omega
theorem wf_lit {l : List Int} (h : ∀ x ∈ l, (Lit.int .u32 x).wf = true) : Wf l := by
 intro x hx
 have := h x hx
 have e : (Lit.int .u32 x).wf = true ↔ 0 ≤ x ∧ x < 4294967296 := by
  simp [Lit.wf, IntKind.min, IntKind.max, IntKind.signed, IntKind.bits]
  omega
 exact e.1 this
end Go.Proofs.Ytgffficaoioljaa.PlA
end

import Derived.Test.YtiamjfckgmnijaaDoorFtShelf
import Derived.Lib.Walk
import Derived.Lib.ItoaMem
import Derived.WalkKit
import Derived.BigCall
import Derived.BigGuard
import Derived.Test.YtiamjfckgmnijaaDoorFtG
import Derived.Test.YtiamjfckgmnijaaDoorFtAbW
import Derived.Lib.ItoaNum
import Derived.Lib.ParseIntBCases
import Derived.Lib.AtoiAllCases
import Derived.Test.YtiamjfckgmnijaaDoorFtNb
import Derived.Lib.Bytealg
import Derived.Test.YtiamjfckgmnijaaDoorFtNd
import Derived.Test.YtiamjfckgmnijaaDoorFtNa
set_option linter.all false
section
namespace Go.Ab
open Go Go.Proofs Go.RowKit Go.Sort Go.Lib
theorem holds_zero0 (w : World) (T : TypeId) (nd : Nat) (hs : nd ≤ 24) : Go.Sort.Holds (fun (b : UInt8) => Value.int .u8 (b.toNat : Int)) (w.alloc (.cells zeros24 T)) w.heap.size 0 (Array.replicate nd (0 : UInt8)) := fun j hj => by
  have hj' : j < nd := by simpa using hj
  refine ⟨?_, World.frozen?_alloc_new _ _ _ _⟩
  rw [World.cell?_alloc_new, zeros24_at _ (by omega), getElem!_pos _ j hj]
  simp
theorem fin_pos0 (w : World) (o : Obj) (dk : Array UInt8) (k : Nat) : ∃ os, (putRow (fun (b : UInt8) => Value.int .u8 (b.toNat : Int)) (w.alloc o) w.heap.size 0 dk).drewN k = grow (w.drewN k) os := by
  rw [alloc_eq_grow]
  obtain ⟨os', _, e⟩ := putRow_grow_new (fun (b : UInt8) => Value.int .u8 (b.toNat : Int)) w #[o] w.heap.size 0 dk (Nat.le_refl _)
  exact ⟨os', by rw [e]; rfl⟩
set_option maxHeartbeats 6400000 in
set_option maxRecDepth 100000 in
theorem fu_big (u : Nat) (hu100 : 100 ≤ u) (hu64 : u < 18446744073709551616) (w : World) (htab : Lib.TabIs Tryd.prog w "internal/strconv.uint64pow10" .u64 Lib.pow10Tab) :
    Calls Tryd.prog 64 #[.int .u64 u, .int .i64 10] w fun e w' => e = .returned (.string ⟨(Lib.decDigits u).toArray⟩) ∧ ∃ k os, w' = grow (w.drewN k) os := by
  have hu1 : 1 ≤ u := by omega
  have hnd20 : Lib.nDigits u ≤ 20 := by have := Lib.numDigits_eq u hu1 hu64; split at this <;> omega
  have hal : Tryd.prog.arrayLen 106 = 24 := by kernel_rfl
  have hsl1 : ∀ W, (Instr.sliceAt 106 (.pointer (some ⟨w.heap.size, 0, none⟩)) none (some (.int .i64 (Lib.nDigits u : Int))) none).run Tryd.prog W = .ok (.slice (some ⟨w.heap.size, 0, none⟩) (Lib.nDigits u) 24) W := fun W => by
    rw [run_sliceAt_array_h W 106 ⟨w.heap.size, 0, none⟩ (by kernel_rfl) .i64 (Lib.nDigits u : Int) (by omega) (by rw [hal]; omega)]
    go_simp
  have hH0 := holds_zero0 w 106 (Lib.nDigits u) (by omega)
  have hfmt := Tryd.internal_strconv_formatBase10 w.heap.size 0 24 u (Array.replicate (Lib.nDigits u) 0) (w.alloc (.cells Lib.zeros24 106)) hH0 (by rw [Array.size_replicate]; exact Lib.lt_pow_nDigits u) hu64 (by rw [Array.size_replicate]; omega)
  rw [Array.size_replicate] at hfmt
  have HH0 := Lib.hid hH0
  clear hH0 hal
  go_enter Tryd.func64, Tryd.ntmps64
  go_wp2_with (first
    | (go_at_call 90; refine (Tryd.internal_strconv_numDigits u hu1 hu64 _ (Lib.tabIs_alloc htab _)).mono ?_; rintro e w' ⟨rfl, rfl⟩))
  go_at_call 91
  refine hfmt.mono ?_
  rintro e w' ⟨rfl, k, v', dk, rfl, hF⟩
  have hcv : (convert 100 9 (.slice (some ⟨w.heap.size, 0, none⟩) (Lib.nDigits u) 24)).run Tryd.prog ((putRow (fun (b : UInt8) => Value.int .u8 (b.toNat : Int)) (w.alloc (.cells Lib.zeros24 106)) w.heap.size 0 dk).drewN k) = .ok (.string ⟨(Lib.decDigits u).toArray⟩) ((putRow (fun (b : UInt8) => Value.int .u8 (b.toNat : Int)) (w.alloc (.cells Lib.zeros24 106)) w.heap.size 0 dk).drewN k) := by
    have h := run_convert_bytes_back (P := Tryd.prog) ((putRow (fun (b : UInt8) => Value.int .u8 (b.toNat : Int)) (w.alloc (.cells Lib.zeros24 106)) w.heap.size 0 dk).drewN k) 100 9 5 ⟨w.heap.size, 0, none⟩ 24 (Lib.decDigits u) Tryd.underlying100 Tryd.underlying5 Tryd.underlying9 (fun j hj => by
      rw [Lib.row_is_numeral hF j hj, Lib.add_plain, World.cell?_drewN]
      exact cell?_putRow (fun (b : UInt8) => Value.int .u8 (b.toNat : Int)) _ w.heap.size 0 _ dk HH0.out (by rw [hF.size, Array.size_replicate]) j (by rw [hF.size]; rw [Lib.decDigits_length] at hj; exact hj))
    rw [Lib.decDigits_length] at h
    exact h
  go_wp2
  go_ret
  obtain ⟨os, eo⟩ := fin_pos0 w (.cells Lib.zeros24 106) dk k
  exact ⟨rfl, k, os, eo⟩
end Go.Ab
end
section
namespace Go.Ab
open Go Go.Proofs Go.RowKit Go.Sort Go.Lib
set_option maxRecDepth 100000
theorem spec_of_calls {P : Program} {f : FuncId} {xs : List AV} {r : AV} (he : ∀ args w, (callFunc f args).run P w = .ok (.enter f args) w) (hp : r.pure = true)
    (h : ∀ (M : Nat → Prop) (w : World) (vs : List Value), TabOK w M → RepL w μ0 M xs vs → Calls P f vs.toArray w (fun e w' => ∃ v, e = .returned v ∧ Rep w' μ0 M r v ∧ Ext M0 w w')) : Spec P f xs r :=
  ⟨he, fun M w vs _ hT hr => (h M w vs hT hr).mono fun e w' ⟨v, e1, h1, h2⟩ => by subst e1; exact ⟨h1, h2⟩, hp⟩
theorem ext_grow (w : World) (k : Nat) (os : Array Obj) : Ext M0 w (grow (w.drewN k) os) :=
  ⟨rfl, rfl, rfl, by simp [grow, World.drewN], fun b hb _ => by simp only [grow, World.drewN]; rw [Array.getElem?_append_left hb]⟩
theorem ext_below {w w' : World} (h : Below w.heap.size w w') : Ext M0 w w' := ⟨h.os, h.tape, h.output, h.size, fun b hb _ => h.block b hb⟩
theorem tabIs_of {w : World} {M : Nat → Prop} (h : TabOK w M) : Lib.TabIs Tryd.prog w "internal/strconv.uint64pow10" .u64 Lib.pow10Tab := by
  have hm : (5, Lib.pow10Tab.map (Value.int .u64)) ∈ tabs := by
    simp only [tabs]
    exact List.mem_cons_of_mem _ (List.mem_cons_self)
  obtain ⟨_, _, _, _, ty, z, e⟩ := h.1 _ hm
  have hg : Tryd.prog.globalNamed "internal/strconv.uint64pow10" = some 5 := by kernel_rfl
  unfold Lib.TabIs World.var?
  rw [hg]
  simp only [Option.bind_some]
  rw [e]
theorem fu_small (u : Nat) (hu : u < 100) (w : World) :
    Calls Tryd.prog 64 #[.int .u64 u, .int .i64 10] w fun e w' => e = .returned (.string ⟨(Lib.decDigits u).toArray⟩) ∧ w' = w := by
  go_enter Tryd.func64, Tryd.ntmps64
  go_wp2_with (go_at_call 89; refine (Tryd.internal_strconv_small u hu _).mono ?_; rintro e w' ⟨rfl, rfl⟩)
  go_ret
  exact ⟨rfl, rfl⟩
theorem fu_in (u : Nat) (hu64 : u < 18446744073709551616) (w : World) (htab : Lib.TabIs Tryd.prog w "internal/strconv.uint64pow10" .u64 Lib.pow10Tab) :
    Calls Tryd.prog 64 #[.int .u64 u, .int .i64 10] w fun e w' => e = .returned (.string ⟨(Lib.decDigits u).toArray⟩) ∧ ∃ k os, w' = grow (w.drewN k) os := by
  by_cases h : u < 100
  · exact (fu_small u h w).mono fun e w' ⟨h1, h2⟩ => ⟨h1, 0, #[], by rw [h2]; simp [World.drewN_zero, grow]⟩
  · exact fu_big u (by omega) hu64 w htab
theorem fu_out (u : Nat) (hu64 : u < 18446744073709551616) (w : World) (htab : Lib.TabIs Tryd.prog w "internal/strconv.uint64pow10" .u64 Lib.pow10Tab) :
    Calls Tryd.prog 46 #[.int .u64 u, .int .i64 10] w fun e w' => e = .returned (.string ⟨(Lib.decDigits u).toArray⟩) ∧ ∃ k os, w' = grow (w.drewN k) os := by
  go_enter Tryd.func46, Tryd.ntmps46
  go_wp2_with (go_at_call 64; refine (fu_in u hu64 _ htab).mono ?_; rintro e w' ⟨rfl, k, os, rfl⟩)
  go_ret
  exact ⟨rfl, k, os, rfl⟩
theorem s_FormatUint (u : Nat) (hu64 : u < 18446744073709551616) : Spec Tryd.prog 46 [.sc (.int .u64 u), .sc (.int .i64 10)] (.sc (.string ⟨(Lib.decDigits u).toArray⟩)) := by
  refine spec_of_calls Tryd.call46 (by kernel_rfl) fun M w vs hT hr => ?_
  rcases vs with _ | ⟨v1, _ | ⟨v2, _ | ⟨v3, vs⟩⟩⟩ <;> simp only [RepL, Rep, and_false, false_and] at hr
  obtain ⟨rfl, rfl, _⟩ := hr
  exact (fu_out u hu64 w (tabIs_of hT)).mono fun e w' ⟨e1, k, os, e2⟩ => ⟨_, e1, by simp only [Rep], by subst e2; exact ext_grow w k os⟩
theorem s_Itoa (n : Int) (h0 : -9223372036854775808 ≤ n) (h1 : n ≤ 9223372036854775807) : Spec Tryd.prog 47 [.sc (.int .i64 n)] (.sc (.string ⟨(Lib.itoa n).toArray⟩)) := by
  refine spec_of_calls Tryd.call47 (by kernel_rfl) fun M w vs hT hr => ?_
  rcases vs with _ | ⟨v1, _ | ⟨v2, vs⟩⟩ <;> simp only [RepL, Rep, and_false, false_and] at hr
  obtain ⟨rfl, _⟩ := hr
  exact (Tryd.strconv_Itoa n h0 h1 w (tabIs_of hT)).mono fun e w' ⟨e1, k, os, e2⟩ => ⟨_, e1, by simp only [Rep], by subst e2; exact ext_grow w k os⟩
theorem s_ParseUint_ok (s : ByteArray) (u : Nat) (hmax : s.size ≤ 9223372036854775806) (h : Lib.parseUintB 64 s.data.toList = .ok u) : Spec Tryd.prog 43 [.sc (.string s), .sc (.int .i64 10), .sc (.int .i64 64)] (.tup [.sc (.int .u64 u), .sc .nilIface]) := by
  refine spec_of_calls Tryd.call43 (by kernel_rfl) fun M w vs hT hr => ?_
  rcases vs with _ | ⟨v1, _ | ⟨v2, _ | ⟨v3, _ | ⟨v4, vs⟩⟩⟩⟩ <;> simp only [RepL, Rep, and_false, false_and] at hr
  obtain ⟨rfl, rfl, rfl, _⟩ := hr
  refine (Tryd.strconv_ParseUint_10_at64_ok s hmax u h w).mono fun e w' ⟨e1, e2⟩ => ⟨_, e1, ?_, ?_⟩
  · simp only [Rep]
    exact ⟨#[.int .u64 u, .nilIface], rfl, by simp only [RepL, Rep]; exact ⟨trivial, trivial, trivial⟩⟩
  · rcases e2 with e2 | e2
    · subst e2; exact Ext.refl _ _
    · subst e2; exact ext_below (Lib.bytesWorld_below _ _ _)
theorem s_Atoi_ok (s : ByteArray) (v : Int) (hmax : s.size ≤ 9223372036854775806) (h : Lib.atoiAll s.data.toList = .ok v) : Spec Tryd.prog 44 [.sc (.string s)] (.tup [.sc (.int .i64 v), .sc .nilIface]) := by
  refine spec_of_calls Tryd.call44 (by kernel_rfl) fun M w vs hT hr => ?_
  rcases vs with _ | ⟨v1, _ | ⟨v2, vs⟩⟩ <;> simp only [RepL, Rep, and_false, false_and] at hr
  obtain ⟨rfl, _⟩ := hr
  refine (Tryd.strconv_Atoi_ok s hmax v h w).mono fun e w' ⟨e1, e2⟩ => ⟨_, e1, ?_, ?_⟩
  · simp only [Rep]
    exact ⟨#[.int .i64 v, .nilIface], rfl, by simp only [RepL, Rep]; exact ⟨trivial, trivial, trivial⟩⟩
  · rcases e2 with e2 | ⟨t, e2⟩
    · subst e2; exact Ext.refl _ _
    · subst e2; exact ext_below (Lib.bytesWorld_below _ _ _)
end Go.Ab
end
section
namespace Go.Ab
open Go Go.Lib
theorem dec_small {u : Nat} (h : u < 10) : decDigits u = [UInt8.ofNat (48 + u)] := by rw [decDigits, dif_pos h]
theorem dec_big {u : Nat} (h : ¬ u < 10) : decDigits u = decDigits (u / 10) ++ [UInt8.ofNat (48 + u % 10)] := by rw [decDigits, dif_neg h]
def stepM (M a : Nat) (c : UInt8) : NumEnd Nat := parseUintM M a [c]
theorem parse_snoc (M : Nat) (c : UInt8) : ∀ (l : List UInt8) (acc : Nat), parseUintM M acc (l ++ [c]) = (match parseUintM M acc l with | .ok a => stepM M a c | x => x)
  | [], acc => rfl
  | b :: l, acc => by
    simp only [List.cons_append, parseUintM]
    split
    · split
      · rfl
      · split
        · rfl
        · exact parse_snoc M c l _
    · rfl
theorem digit_nat {d : Nat} (h : d < 10) : (UInt8.ofNat (48 + d)).toNat = 48 + d := by
  rw [UInt8.toNat_ofNat']
  omega
theorem parse_dec : ∀ (n u : Nat), u ≤ n → u < 18446744073709551616 → parseUintM 18446744073709551615 0 (decDigits u) = .ok u
  | 0, u, h, h64 => by
    have : u = 0 := by omega
    subst this
    rw [dec_small (by omega)]
    rfl
  | n + 1, u, h, h64 => by
    by_cases hu : u < 10
    · rw [dec_small hu]
      simp only [parseUintM, digit_nat hu]
      rw [if_pos (by omega), if_neg (by omega), if_neg (by omega)]
      congr 1
      omega
    · rw [dec_big hu, parse_snoc, parse_dec n (u / 10) (by omega) (by omega)]
      simp only [stepM, parseUintM, digit_nat (Nat.mod_lt u (by decide : 0 < 10))]
      rw [if_pos (by omega), if_neg (by omega), if_neg (by omega)]
      congr 1
      omega
theorem dec_ne (u : Nat) : decDigits u ≠ [] := by
  by_cases hu : u < 10
  · rw [dec_small hu]; simp
  · rw [dec_big hu]; simp
theorem parse_uint {u : Nat} (h : u < 18446744073709551616) : parseUintB 64 (decDigits u) = .ok u := by
  unfold parseUintB
  rw [if_neg (dec_ne u)]
  exact parse_dec u u (Nat.le_refl _) h
theorem dec_head : ∀ (n u : Nat), u ≤ n → ∃ d r, d < 10 ∧ decDigits u = UInt8.ofNat (48 + d) :: r
  | 0, u, h => ⟨u, [], by omega, dec_small (by omega)⟩
  | n + 1, u, h => by
    by_cases hu : u < 10
    · exact ⟨u, [], hu, dec_small hu⟩
    · obtain ⟨d, r, hd, e⟩ := dec_head n (u / 10) (by omega)
      exact ⟨d, r ++ [UInt8.ofNat (48 + u % 10)], hd, by rw [dec_big hu, e]; rfl⟩
theorem parse_mag {u : Nat} (h : u < 18446744073709551616) : parseMag (decDigits u) = .ok u := by rw [← parseUintB_64]; exact parse_uint h
theorem atoi_itoa {n : Int} (h0 : -9223372036854775808 < n) (h1 : n < 9223372036854775808) : atoiAll (itoa n) = .ok n := by
  by_cases hn : n < 0
  · obtain ⟨u, rfl⟩ : ∃ u : Nat, n = -(u : Int) := ⟨n.natAbs, by omega⟩
    rw [itoa_neg u (by omega)]
    simp only [atoiAll]
    rw [show (if (45 : UInt8).toNat = 43 ∨ (45 : UInt8).toNat = 45 then decDigits u else 45 :: decDigits u) = decDigits u from rfl, parse_mag (by omega)]
    simp only
    rw [if_neg (by simp), if_neg (by omega), if_pos (by rfl)]
  · obtain ⟨u, rfl⟩ : ∃ u : Nat, n = u := ⟨n.toNat, by omega⟩
    rw [itoa_nonneg]
    obtain ⟨d, r, hd, e⟩ := dec_head u u (Nat.le_refl _)
    have hp := parse_mag (u := u) (by omega)
    rw [e] at hp ⊢
    have hc := digit_nat hd
    simp only [atoiAll]
    rw [if_neg (by rw [hc]; omega), hp]
    simp only
    rw [if_neg (by omega), if_neg (by rw [hc]; omega), if_neg (by rw [hc]; omega)]
end Go.Ab
end
section
namespace Go.Ab
open Go Go.Proofs Go.RowKit Go.Sort Go.Lib
set_option maxRecDepth 100000
set_option maxHeartbeats 4000000
theorem s_Index1 (s : ByteArray) (c : UInt8) : Spec Tryd.prog 81 [.sc (.string s), .sc (.string ⟨#[c]⟩)] (.sc (.int .i64 (Lib.indexByte s.data.toList c))) := by
  refine spec_of_calls Tryd.call81 (by kernel_rfl) fun M w vs hT hr => ?_
  rcases vs with _ | ⟨v1, _ | ⟨v2, _ | ⟨v3, vs⟩⟩⟩ <;> simp only [RepL, Rep, and_false, false_and] at hr
  obtain ⟨rfl, rfl, _⟩ := hr
  exact (Tryd.stringslite_Index_one s c w).mono fun e w' ⟨e1, e2⟩ => ⟨_, e1, by simp only [Rep], by subst e2; exact Ext.refl _ _⟩
theorem s_CutIn (s : ByteArray) (i : Nat) (hi : Lib.indexByte s.data.toList 112 = i) (hl : i < s.size) (hs : s.size ≤ 140737488355328) : Spec Tryd.prog 59 [.sc (.string s), .sc (.string ⟨#[112]⟩)] (.tup [.sc (.string (s.extract 0 i)), .sc (.string (s.extract (i + 1) s.size)), .sc (.bool true)]) := by
  refine spec_of_awp mixed Tryd.func59 rfl Tryd.call59 (by kernel_rfl) (by simp) rfl ?_
  have hx := s_Index1 s 112
  rw [hi] at hx
  refine T (call_by hx ?_)
  refine T ?_
  rw [show ((({ data := #[112] } : ByteArray).size : Nat) : Int) = 1 from rfl, wrap64 (by omega) (by omega), if_pos (show (0 : Int) ≤ (i : Int) + 1 by omega), show ((i : Int) + 1).toNat = i + 1 by omega]
  simp only
  rw [if_pos ⟨by omega, Nat.le_refl _⟩]
  refine T (r_ret ?_)
  rw [Tryd.results59]
  refine R ?_
  exact Wk.refl _
theorem s_Cut (s : ByteArray) (i : Nat) (hi : Lib.indexByte s.data.toList 112 = i) (hl : i < s.size) (hs : s.size ≤ 140737488355328) : Spec Tryd.prog 42 [.sc (.string s), .sc (.string ⟨#[112]⟩)] (.tup [.sc (.string (s.extract 0 i)), .sc (.string (s.extract (i + 1) s.size)), .sc (.bool true)]) := by
  refine spec_of_awp mixed Tryd.func42 rfl Tryd.call42 (by kernel_rfl) (by simp) rfl ?_
  refine T (call_by (s_CutIn s i hi hl hs) ?_)
  refine T (r_ret ?_)
  rw [Tryd.results42]
  refine R ?_
  exact Wk.refl _
end Go.Ab
end
section
namespace Go.Ab
open Go Go.Lib
theorem ba_extract (l : List UInt8) (i j : Nat) : (⟨l.toArray⟩ : ByteArray).extract i j = ⟨((l.drop i).take (j - i)).toArray⟩ := by
  apply ByteArray.ext
  simp [ByteArray.data_extract]
theorem idx_at (r : List UInt8) : ∀ (l : List UInt8), (∀ b ∈ l, b ≠ 112) → indexByte (l ++ 112 :: r) 112 = (l.length : Int)
  | [], _ => rfl
  | b :: l, h => by
    have hb := h b (List.mem_cons_self)
    have ih := idx_at r l fun x hx => h x (List.mem_cons_of_mem _ hx)
    simp only [List.cons_append, indexByte, ih]
    rw [if_neg (by simpa using hb), if_neg (by simp)]
    simp
theorem dec_digit : ∀ (n u : Nat), u ≤ n → ∀ b ∈ decDigits u, 48 ≤ b.toNat ∧ b.toNat ≤ 57
  | 0, u, h, b, hb => by
    rw [dec_small (by omega)] at hb
    simp only [List.mem_cons, List.mem_nil_iff, or_false] at hb
    rw [hb, digit_nat (by omega)]
    omega
  | n + 1, u, h, b, hb => by
    by_cases hu : u < 10
    · rw [dec_small hu] at hb
      simp only [List.mem_cons, List.mem_nil_iff, or_false] at hb
      rw [hb, digit_nat hu]
      omega
    · rw [dec_big hu, List.mem_append] at hb
      rcases hb with hb | hb
      · exact dec_digit n (u / 10) (by omega) b hb
      · simp only [List.mem_cons, List.mem_nil_iff, or_false] at hb
        rw [hb, digit_nat (Nat.mod_lt u (by decide))]
        omega
theorem dec_len : ∀ (n u : Nat), u < 10 ^ (n + 1) → (decDigits u).length ≤ n + 1
  | 0, u, h => by rw [dec_small (by simpa using h)]; simp
  | n + 1, u, h => by
    by_cases hu : u < 10
    · rw [dec_small hu]; simp
    · have := dec_len n (u / 10) (by rw [Nat.pow_succ] at h; omega)
      rw [dec_big hu]
      simp
      omega
theorem itoa_len {e : Int} (h0 : -10000 < e) (h1 : e < 10000) : (itoa e).length ≤ 5 := by
  unfold itoa
  split
  · have := dec_len 3 e.natAbs (by omega)
    simp
    omega
  · have := dec_len 3 e.toNat (by omega)
    omega
theorem ne_p {b : UInt8} (h : 48 ≤ b.toNat ∧ b.toNat ≤ 57) : b ≠ 112 := by
  intro e
  subst e
  revert h
  decide
theorem idx_txt (c : UInt8) (hc : c ≠ 112) (m : Nat) (r : List UInt8) : indexByte (c :: (decDigits m ++ 112 :: r)) 112 = ((1 + (decDigits m).length : Nat) : Int) := by
  have := idx_at r (c :: decDigits m) (by
    intro b hb
    rcases List.mem_cons.1 hb with rfl | hb
    · exact hc
    · exact ne_p (dec_digit m m (Nat.le_refl _) b hb))
  rw [List.cons_append] at this
  rw [this, List.length_cons]
  omega
theorem cut_l (c : UInt8) (m : Nat) (r : List UInt8) : (⟨(c :: (decDigits m ++ 112 :: r)).toArray⟩ : ByteArray).extract 0 (1 + (decDigits m).length) = ⟨(c :: decDigits m).toArray⟩ := by
  rw [ba_extract, List.drop_zero, Nat.sub_zero, show c :: (decDigits m ++ 112 :: r) = (c :: decDigits m) ++ 112 :: r from rfl, show 1 + (decDigits m).length = (c :: decDigits m).length by simp; omega, List.take_left]
theorem cut_r (c : UInt8) (m : Nat) (r : List UInt8) (n : Nat) (hn : 1 + (decDigits m).length + 1 + r.length ≤ n) : (⟨(c :: (decDigits m ++ 112 :: r)).toArray⟩ : ByteArray).extract (1 + (decDigits m).length + 1) n = ⟨r.toArray⟩ := by
  rw [ba_extract, show c :: (decDigits m ++ 112 :: r) = (c :: decDigits m ++ [112]) ++ r by simp, show 1 + (decDigits m).length + 1 = (c :: decDigits m ++ [112]).length by simp; omega, List.drop_left]
  congr 2
  exact List.take_of_length_le (by simp at hn ⊢; omega)
theorem cut_1 (c : UInt8) (l : List UInt8) (n : Nat) (hn : l.length + 1 ≤ n) : (⟨(c :: l).toArray⟩ : ByteArray).extract 1 n = ⟨l.toArray⟩ := by
  rw [ba_extract]
  congr 2
  exact List.take_of_length_le (by simp; omega)
end Go.Ab
end
section
namespace Go.Ab
open Go Go.Proofs Go.RowKit Go.Sort Go.Lib
set_option maxRecDepth 100000
set_option maxHeartbeats 4000000
def sgB (b : Bool) : UInt8 := if b = true then 45 else 43
def txt (b : Bool) (m : Nat) (e : Int) : ByteArray := ⟨(sgB b :: (decDigits m ++ 112 :: itoa e)).toArray⟩
theorem txt_eq (c : UInt8) (m : Nat) (e : Int) : (⟨#[c]⟩ : ByteArray) ++ ⟨(decDigits m).toArray⟩ ++ ⟨#[112]⟩ ++ ⟨(itoa e).toArray⟩ = ⟨(c :: (decDigits m ++ 112 :: itoa e)).toArray⟩ := by
  apply ByteArray.ext
  simp [ByteArray.data_append]
theorem sb_add (a b : ByteArray) (h : a.size + b.size ≤ 1000) : sbin .add a b = some (.string (a ++ b)) := by
  unfold sbin
  rw [if_pos (by omega)]
theorem sz_l (l : List UInt8) : (⟨l.toArray⟩ : ByteArray).size = l.length := by simp [ByteArray.size]
theorem s_TextF (x : Nat) (hx : x < 18446744073709551616) (h1 : rg x < 9218868437227405312) (m : Nat) (e : Int) (he : -2000 ≤ e ∧ e ≤ 2000) (hm : m < 18446744073709551616) (b : Bool) (hb : (clsL x).2 = b)
    (hP : Spec Tryd.prog 13 [f64 x] (.tup [.sc (.bool b), u64 m, .sc (.int .i64 e), .sc (.int .i64 0)])) :
    Spec Tryd.prog 24 [f64 x] (.sc (.string (txt b m e))) := by
  refine spec_of_awp mixed Tryd.func24 rfl Tryd.call24 (by kernel_rfl) (by simp) rfl ?_
  have cC := s_Class x hx
  have hc : 2 < (clsL x).1 := by
    unfold clsL
    rw [if_neg (by omega), if_neg (by omega)]
    split
    · exact (by decide : (2 : Int) < 3)
    · split
      · exact (by decide : (2 : Int) < 4)
      · exact (by decide : (2 : Int) < 5)
  generalize clsL x = c at *
  obtain ⟨c1, c2⟩ := c
  simp only at hb hc
  subst hb
  have cF := s_FormatUint m hm
  have cI := s_Itoa e (by omega) (by omega)
  have te := txt_eq (sgB c2) m e
  unfold txt
  rw [← te]
  have z1 := dec_len 19 m (by omega)
  have z2 := itoa_len (e := e) (by omega) (by omega)
  cases c2
  · refine T (call_by cC ?_)
    refine T (call_by hP ?_)
    refine T (call_by cF ?_)
    refine T ?_
    rw [sb_add _ _ (by rw [sz_l (decDigits m)]; show 1 + (decDigits m).length ≤ 1000; omega), Option.map_some]
    refine T ?_
    rw [sb_add _ _ (by rw [ByteArray.size_append, sz_l (decDigits m)]; show 1 + (decDigits m).length + 1 ≤ 1000; omega), Option.map_some]
    refine T (call_by cI ?_)
    refine T ?_
    rw [sb_add _ _ (by rw [ByteArray.size_append, ByteArray.size_append, sz_l (decDigits m), sz_l (itoa e)]; show 1 + (decDigits m).length + 1 + (itoa e).length ≤ 1000; omega), Option.map_some]
    refine T (r_ret ?_)
    rw [Tryd.results24]
    refine R ?_
    exact Wk.refl _
  · refine T (call_by cC ?_)
    refine T (call_by hP ?_)
    refine T (call_by cF ?_)
    refine T ?_
    rw [sb_add _ _ (by rw [sz_l (decDigits m)]; show 1 + (decDigits m).length ≤ 1000; omega), Option.map_some]
    refine T ?_
    rw [sb_add _ _ (by rw [ByteArray.size_append, sz_l (decDigits m)]; show 1 + (decDigits m).length + 1 ≤ 1000; omega), Option.map_some]
    refine T (call_by cI ?_)
    refine T ?_
    rw [sb_add _ _ (by rw [ByteArray.size_append, ByteArray.size_append, sz_l (decDigits m), sz_l (itoa e)]; show 1 + (decDigits m).length + 1 + (itoa e).length ≤ 1000; omega), Option.map_some]
    refine T (r_ret ?_)
    rw [Tryd.results24]
    refine R ?_
    exact Wk.refl _
theorem q_TextF (x : Nat) (hx : x < 18446744073709551616) (h1 : rg x < 9218868437227405312) (m : Nat) (e : Int) (he : -2000 ≤ e ∧ e ≤ 2000) (hm : m < 18446744073709551616)
    (hP : Spec Tryd.prog 14 [u64 x] (.tup [.sc (.bool (sgx x)), u64 m, .sc (.int .i64 e), .sc (.int .i64 0)])) :
    Spec Tryd.prog 25 [u64 x] (.sc (.string (txt (sgx x) m e))) := by
  refine spec_of_awp mixed Tryd.func25 rfl Tryd.call25 (by kernel_rfl) (by simp) rfl ?_
  have cF := s_FormatUint m hm
  have cI := s_Itoa e (by omega) (by omega)
  have te := txt_eq (sgB (sgx x)) m e
  have qN := q_IsNaN x
  rw [decide_eq_false (by omega)] at qN
  unfold txt
  rw [← te]
  have z1 := dec_len 19 m (by omega)
  have z2 := itoa_len (e := e) (by omega) (by omega)
  rw [sgx_eq hx] at *
  by_cases hs : 9223372036854775808 ≤ x
  · rw [decide_eq_true hs] at *
    refine T (call_by qN ?_)
    refine T (call_by (q_Size x) ?_)
    refine T (call_by hP ?_)
    refine T (call_by cF ?_)
    refine T ?_
    rw [sb_add _ _ (by rw [sz_l (decDigits m)]; show 1 + (decDigits m).length ≤ 1000; omega), Option.map_some]
    refine T ?_
    rw [sb_add _ _ (by rw [ByteArray.size_append, sz_l (decDigits m)]; show 1 + (decDigits m).length + 1 ≤ 1000; omega), Option.map_some]
    refine T (call_by cI ?_)
    refine T ?_
    rw [sb_add _ _ (by rw [ByteArray.size_append, ByteArray.size_append, sz_l (decDigits m), sz_l (itoa e)]; show 1 + (decDigits m).length + 1 + (itoa e).length ≤ 1000; omega), Option.map_some]
    refine T (r_ret ?_)
    rw [Tryd.results25]
    refine R ?_
    exact Wk.refl _
  · rw [decide_eq_false hs] at *
    refine T (call_by qN ?_)
    refine T (call_by (q_Size x) ?_)
    refine T (call_by hP ?_)
    refine T (call_by cF ?_)
    refine T ?_
    rw [sb_add _ _ (by rw [sz_l (decDigits m)]; show 1 + (decDigits m).length ≤ 1000; omega), Option.map_some]
    refine T ?_
    rw [sb_add _ _ (by rw [ByteArray.size_append, sz_l (decDigits m)]; show 1 + (decDigits m).length + 1 ≤ 1000; omega), Option.map_some]
    refine T (call_by cI ?_)
    refine T ?_
    rw [sb_add _ _ (by rw [ByteArray.size_append, ByteArray.size_append, sz_l (decDigits m), sz_l (itoa e)]; show 1 + (decDigits m).length + 1 + (itoa e).length ≤ 1000; omega), Option.map_some]
    refine T (r_ret ?_)
    rw [Tryd.results25]
    refine R ?_
    exact Wk.refl _
end Go.Ab
end
section
namespace Go.Ab
open Go Go.Proofs Go.RowKit Go.Sort Go.Lib
set_option maxRecDepth 100000
set_option exponentiation.threshold 5000
set_option maxHeartbeats 4000000
theorem rejoin {x k w : Nat} (h0 : 0 < rg x) (h1 : rg x < 9218868437227405312) (hm : mg (rg x) = (2 * k + 1) * 2 ^ w) : jr (2 * k + 1) ((w : Int) - 1074) = rg x ∧ 2 * k + 1 < 9007199254740992 ∧ w ≤ 2170 := by
  obtain ⟨j0, b1, b2, b3, b4⟩ := mg_bound h1 hm h0
  have hk : 2 * k + 1 < 9007199254740992 := Nat.lt_of_le_of_lt (Nat.le_mul_of_pos_right _ (Nat.two_pow_pos j0)) b3
  have hj : j0 < 53 := (Nat.pow_lt_pow_iff_right (by decide)).1 (Nat.lt_of_le_of_lt (Nat.le_mul_of_pos_left (2 ^ j0) (show 0 < 2 * k + 1 by omega)) b3)
  have hw : w ≤ 2170 := by omega
  have hl : (2 * k + 1).log2 < 53 := (Nat.log2_lt (by omega)).2 hk
  have hq : jq (2 * k + 1) ((w : Int) - 1074) ≤ (w : Int) - 1074 := by unfold jq; omega
  have ij := isR_jr (man := 2 * k + 1) (exp := (w : Int) - 1074) (by omega) (by omega) (by omega) _ rfl
  rw [if_pos hq, (jm_a (by omega) hq).2.2.1, show ((w : Int) - 1074 + 1074).toNat = w by omega, ← hm] at ij
  exact ⟨isR_uniq ij (.inl ⟨h1, rfl⟩), hk, hw⟩
def TX (x : Nat) (t : ByteArray) : Prop := Spec Tryd.prog 24 [f64 x] (.sc (.string t)) ∧ Spec Tryd.prog 25 [u64 x] (.sc (.string t))
theorem tx_fin (x : Nat) (hx : x < 18446744073709551616) (h1 : rg x < 9218868437227405312) : ∃ (m : Nat) (e : Int), TX x (txt (sgx x) m e) ∧ jr m e = rg x ∧ m < 9007199254740992 ∧ -1074 ≤ e ∧ e ≤ 1100 := by
  have hb : (clsL x).2 = sgx x := by
    unfold clsL
    rw [if_neg (by omega), if_neg (by omega)]
    split
    · rfl
    · split <;> rfl
  rcases Nat.eq_zero_or_pos (rg x) with h0 | h0
  · exact ⟨0, 0, ⟨s_TextF x hx h1 0 0 (by decide) (by decide) _ hb (s_PartsB x hx h0), q_TextF x hx h1 0 0 (by decide) (by decide) (q_PartsB x hx h0)⟩, by rw [h0]; rfl, by decide, by decide, by decide⟩
  · obtain ⟨k, w, hm⟩ := odd_part _ (mg (rg x)) (Nat.le_refl _) (mg_pos h0)
    obtain ⟨r1, r2, r3⟩ := rejoin h0 h1 hm
    exact ⟨2 * k + 1, (w : Int) - 1074, ⟨s_TextF x hx h1 _ _ (by omega) (by omega) _ hb (s_Parts1 x k w hx h0 h1 hm), q_TextF x hx h1 _ _ (by omega) (by omega) (q_Parts1 x k w hx h0 h1 hm)⟩, r1, r2, by omega, by omega⟩
theorem tx_nan (x : Nat) (hx : x < 18446744073709551616) (h1 : 9218868437227405312 < rg x) : TX x ⟨#[110, 97, 110]⟩ := by
  constructor
  · refine spec_of_awp mixed Tryd.func24 rfl Tryd.call24 (by kernel_rfl) (by simp) rfl ?_
    have cC := s_Class x hx
    rw [show clsL x = (1, false) by unfold clsL; rw [if_pos h1]] at cC
    refine T (call_by cC ?_)
    refine T (r_ret ?_)
    rw [Tryd.results24]
    refine R ?_
    exact Wk.refl _
  · refine spec_of_awp mixed Tryd.func25 rfl Tryd.call25 (by kernel_rfl) (by simp) rfl ?_
    have qN := q_IsNaN x
    rw [decide_eq_true h1] at qN
    by_cases hs : 9223372036854775808 ≤ x
    · refine T (call_by qN ?_)
      refine T (r_ret ?_)
      rw [Tryd.results25]
      refine R ?_
      exact Wk.refl _
    · refine T (call_by qN ?_)
      refine T (r_ret ?_)
      rw [Tryd.results25]
      refine R ?_
      exact Wk.refl _
end Go.Ab
end

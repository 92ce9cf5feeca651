import Derived.Test.YtiamjfckgmnijaaDoorFtFt9
set_option linter.all false
section
namespace Go.Ab
open Go Go.Proofs Go.RowKit Go.Sort Go.Lib
set_option maxRecDepth 100000
set_option maxHeartbeats 8000000
theorem q_Read_ok1 (s : ByteArray) (hs : s.size ≤ 140737488355328) (n1 : (s.toList == (⟨#[110, 97, 110]⟩ : ByteArray).toList) = false) (n2 : (s.toList == (⟨#[43, 105, 110, 102]⟩ : ByteArray).toList) = false) (n3 : (s.toList == (⟨#[45, 105, 110, 102]⟩ : ByteArray).toList) = false) (i : Nat) (h1 : 1 ≤ i) (h2 : i < s.size) (hp : (s.data.toList.getD i 0).toNat = 112) (hf : ∀ n, 1 ≤ n → n < i → (s.data.toList.getD n 0).toNat ≠ 112) (v1 v2 : Nat) (o1 o2 : Bool) (u : ByteArray)
    (d1 : Spec Tryd.prog 45 [.sc (.string (s.extract 1 i)), .sc (.int .i64 16)] (.tup [.sc (.int .i64 v1), .sc (.bool o1)])) (d2 : Spec Tryd.prog 45 [.sc (.string u), .sc (.int .i64 4)] (.tup [.sc (.int .i64 v2), .sc (.bool o2)])) (b1 : v1 < 100000000000000000) (b2 : v2 < 100000)
    (bl : Bool) (hu0 : bl = false → u = s.extract (i + 1) s.size ∧ (0 < u.size → (u.data.toList.getD 0 0).toNat ≠ 45)) (hu1 : bl = true → 0 < (s.extract (i + 1) s.size).size ∧ ((s.extract (i + 1) s.size).data.toList.getD 0 0).toNat = 45 ∧ u = (s.extract (i + 1) s.size).extract 1 (s.extract (i + 1) s.size).size) (hz : (s.extract (i + 1) s.size).size ≤ s.size) (ho1 : o1 = true) (ho2 : o2 = true) (x : Nat) (t : ByteArray) (sg : Bool) (hsg0 : sg = false → (s.data.toList.getD 0 0).toNat ≠ 45) (hsg1 : sg = true → (s.data.toList.getD 0 0).toNat = 45) (J0 : bl = false → Spec Tryd.prog 17 [.sc (.bool sg), u64 v1, .sc (.int .i64 v2)] (u64 x)) (J1 : bl = true → Spec Tryd.prog 17 [.sc (.bool sg), u64 v1, .sc (.int .i64 (0 - v2))] (u64 x)) (X : Spec Tryd.prog 25 [u64 x] (.sc (.string t))) (ht : (t.toList == s.toList) = true) : Spec Tryd.prog 23 [.sc (.string s)] (.tup [.sc (.int .u64 x), .sc (.int .i64 0)]) := by
  refine spec_of_awp mixed Tryd.func23 rfl Tryd.call23 (by kernel_rfl) (by simp) rfl ?_
  refine T ?_
  rw [sb_eql, n1, Option.map_some]
  refine T ?_
  rw [sb_eql, n2, Option.map_some]
  refine T ?_
  rw [sb_eql, n3, Option.map_some]
  refine T (w_loop (α := Nat) (fun n => [(.t 0, .sc (.string s)), (.t 4, .sc (.int .i64 n))]) (fun n => 1 ≤ n ∧ n ≤ i) (fun n => i - n) 1 ⟨Nat.le_refl _, h1⟩ ?_ ?_)
  · exact Hk rfl <| Hk rfl trivial
  rintro n r ⟨c1, c2⟩ J hJ
  by_cases h : n < i
  · have hn := hf n c1 h
    generalize hc : (s.data.toList.getD n 0).toNat = c at *
    refine T ?_
    rw [hc]
    refine T ?_
    exact hJ _ (n + 1) (by omega) (by omega) (Hk rfl <| Hk (congrArg (fun z => AV.sc (Value.int .i64 z)) (by omega)) trivial)
  obtain rfl : n = i := by omega
  refine T ?_
  rw [hp]
  generalize hr : s.extract (n + 1) s.size = rs at *
  cases bl
  · obtain ⟨rfl, hne⟩ := hu0 rfl
    by_cases z : u.size = 0
    · refine T (call_by d1 ?_)
      refine T ?_
      rw [hr]
      refine T (call_by d2 ?_)
      subst ho1
      subst ho2
      generalize hs0 : (s.data.toList.getD 0 0).toNat = c00 at *
      cases sg
      · have hsg := hsg0 rfl
        refine T ?_
        rw [hs0]
        refine T (call_by (J0 rfl) ?_)
        refine T (call_by X ?_)
        refine T ?_
        rw [sb_eql, ht, Option.map_some]
        refine T (r_ret ?_)
        rw [Tryd.results23]
        refine R ?_
        exact Wk.refl _
      · have hsg := hsg1 rfl
        refine T ?_
        rw [hs0]
        refine T (call_by (J0 rfl) ?_)
        refine T (call_by X ?_)
        refine T ?_
        rw [sb_eql, ht, Option.map_some]
        refine T (r_ret ?_)
        rw [Tryd.results23]
        refine R ?_
        exact Wk.refl _
    · have hne := hne (by omega)
      generalize hc0 : (u.data.toList.getD 0 0).toNat = c0 at *
      refine T (call_by d1 ?_)
      refine T ?_
      rw [hr]
      refine T ?_
      rw [hc0]
      refine T (call_by d2 ?_)
      subst ho1
      subst ho2
      generalize hs0 : (s.data.toList.getD 0 0).toNat = c00 at *
      cases sg
      · have hsg := hsg0 rfl
        refine T ?_
        rw [hs0]
        refine T (call_by (J0 rfl) ?_)
        refine T (call_by X ?_)
        refine T ?_
        rw [sb_eql, ht, Option.map_some]
        refine T (r_ret ?_)
        rw [Tryd.results23]
        refine R ?_
        exact Wk.refl _
      · have hsg := hsg1 rfl
        refine T ?_
        rw [hs0]
        refine T (call_by (J0 rfl) ?_)
        refine T (call_by X ?_)
        refine T ?_
        rw [sb_eql, ht, Option.map_some]
        refine T (r_ret ?_)
        rw [Tryd.results23]
        refine R ?_
        exact Wk.refl _
  · obtain ⟨z1, z2, rfl⟩ := hu1 rfl
    refine T (call_by d1 ?_)
    refine T ?_
    rw [hr]
    refine T ?_
    rw [z2]
    refine T (call_by d2 ?_)
    subst ho1
    subst ho2
    generalize hs0 : (s.data.toList.getD 0 0).toNat = c00 at *
    cases sg
    · have hsg := hsg0 rfl
      refine T ?_
      rw [hs0]
      refine T (call_by (J1 rfl) ?_)
      refine T (call_by X ?_)
      refine T ?_
      rw [sb_eql, ht, Option.map_some]
      refine T (r_ret ?_)
      rw [Tryd.results23]
      refine R ?_
      exact Wk.refl _
    · have hsg := hsg1 rfl
      refine T ?_
      rw [hs0]
      refine T (call_by (J1 rfl) ?_)
      refine T (call_by X ?_)
      refine T ?_
      rw [sb_eql, ht, Option.map_some]
      refine T (r_ret ?_)
      rw [Tryd.results23]
      refine R ?_
      exact Wk.refl _
theorem q_Read_ok2 (s : ByteArray) (hs : s.size ≤ 140737488355328) (n1 : (s.toList == (⟨#[110, 97, 110]⟩ : ByteArray).toList) = false) (n2 : (s.toList == (⟨#[43, 105, 110, 102]⟩ : ByteArray).toList) = false) (n3 : (s.toList == (⟨#[45, 105, 110, 102]⟩ : ByteArray).toList) = false) (i : Nat) (h1 : 1 ≤ i) (h2 : i < s.size) (hp : (s.data.toList.getD i 0).toNat = 112) (hf : ∀ n, 1 ≤ n → n < i → (s.data.toList.getD n 0).toNat ≠ 112) (v1 v2 : Nat) (o1 o2 : Bool) (u : ByteArray)
    (d1 : Spec Tryd.prog 45 [.sc (.string (s.extract 1 i)), .sc (.int .i64 16)] (.tup [.sc (.int .i64 v1), .sc (.bool o1)])) (d2 : Spec Tryd.prog 45 [.sc (.string u), .sc (.int .i64 4)] (.tup [.sc (.int .i64 v2), .sc (.bool o2)])) (b1 : v1 < 100000000000000000) (b2 : v2 < 100000)
    (bl : Bool) (hu0 : bl = false → u = s.extract (i + 1) s.size ∧ (0 < u.size → (u.data.toList.getD 0 0).toNat ≠ 45)) (hu1 : bl = true → 0 < (s.extract (i + 1) s.size).size ∧ ((s.extract (i + 1) s.size).data.toList.getD 0 0).toNat = 45 ∧ u = (s.extract (i + 1) s.size).extract 1 (s.extract (i + 1) s.size).size) (hz : (s.extract (i + 1) s.size).size ≤ s.size) (ho1 : o1 = true) (ho2 : o2 = true) (x : Nat) (t : ByteArray) (sg : Bool) (hsg0 : sg = false → (s.data.toList.getD 0 0).toNat ≠ 45) (hsg1 : sg = true → (s.data.toList.getD 0 0).toNat = 45) (J0 : bl = false → Spec Tryd.prog 17 [.sc (.bool sg), u64 v1, .sc (.int .i64 v2)] (u64 x)) (J1 : bl = true → Spec Tryd.prog 17 [.sc (.bool sg), u64 v1, .sc (.int .i64 (0 - v2))] (u64 x)) (X : Spec Tryd.prog 25 [u64 x] (.sc (.string t))) (ht : (t.toList == s.toList) = false) : Spec Tryd.prog 23 [.sc (.string s)] (.tup [.sc (.int .u64 0), .sc (.int .i64 31)]) := by
  refine spec_of_awp mixed Tryd.func23 rfl Tryd.call23 (by kernel_rfl) (by simp) rfl ?_
  refine T ?_
  rw [sb_eql, n1, Option.map_some]
  refine T ?_
  rw [sb_eql, n2, Option.map_some]
  refine T ?_
  rw [sb_eql, n3, Option.map_some]
  refine T (w_loop (α := Nat) (fun n => [(.t 0, .sc (.string s)), (.t 4, .sc (.int .i64 n))]) (fun n => 1 ≤ n ∧ n ≤ i) (fun n => i - n) 1 ⟨Nat.le_refl _, h1⟩ ?_ ?_)
  · exact Hk rfl <| Hk rfl trivial
  rintro n r ⟨c1, c2⟩ J hJ
  by_cases h : n < i
  · have hn := hf n c1 h
    generalize hc : (s.data.toList.getD n 0).toNat = c at *
    refine T ?_
    rw [hc]
    refine T ?_
    exact hJ _ (n + 1) (by omega) (by omega) (Hk rfl <| Hk (congrArg (fun z => AV.sc (Value.int .i64 z)) (by omega)) trivial)
  obtain rfl : n = i := by omega
  refine T ?_
  rw [hp]
  generalize hr : s.extract (n + 1) s.size = rs at *
  cases bl
  · obtain ⟨rfl, hne⟩ := hu0 rfl
    by_cases z : u.size = 0
    · refine T (call_by d1 ?_)
      refine T ?_
      rw [hr]
      refine T (call_by d2 ?_)
      subst ho1
      subst ho2
      generalize hs0 : (s.data.toList.getD 0 0).toNat = c00 at *
      cases sg
      · have hsg := hsg0 rfl
        refine T ?_
        rw [hs0]
        refine T (call_by (J0 rfl) ?_)
        refine T (call_by X ?_)
        refine T ?_
        rw [sb_eql, ht, Option.map_some]
        refine T (r_ret ?_)
        rw [Tryd.results23]
        refine R ?_
        exact Wk.refl _
      · have hsg := hsg1 rfl
        refine T ?_
        rw [hs0]
        refine T (call_by (J0 rfl) ?_)
        refine T (call_by X ?_)
        refine T ?_
        rw [sb_eql, ht, Option.map_some]
        refine T (r_ret ?_)
        rw [Tryd.results23]
        refine R ?_
        exact Wk.refl _
    · have hne := hne (by omega)
      generalize hc0 : (u.data.toList.getD 0 0).toNat = c0 at *
      refine T (call_by d1 ?_)
      refine T ?_
      rw [hr]
      refine T ?_
      rw [hc0]
      refine T (call_by d2 ?_)
      subst ho1
      subst ho2
      generalize hs0 : (s.data.toList.getD 0 0).toNat = c00 at *
      cases sg
      · have hsg := hsg0 rfl
        refine T ?_
        rw [hs0]
        refine T (call_by (J0 rfl) ?_)
        refine T (call_by X ?_)
        refine T ?_
        rw [sb_eql, ht, Option.map_some]
        refine T (r_ret ?_)
        rw [Tryd.results23]
        refine R ?_
        exact Wk.refl _
      · have hsg := hsg1 rfl
        refine T ?_
        rw [hs0]
        refine T (call_by (J0 rfl) ?_)
        refine T (call_by X ?_)
        refine T ?_
        rw [sb_eql, ht, Option.map_some]
        refine T (r_ret ?_)
        rw [Tryd.results23]
        refine R ?_
        exact Wk.refl _
  · obtain ⟨z1, z2, rfl⟩ := hu1 rfl
    refine T (call_by d1 ?_)
    refine T ?_
    rw [hr]
    refine T ?_
    rw [z2]
    refine T (call_by d2 ?_)
    subst ho1
    subst ho2
    generalize hs0 : (s.data.toList.getD 0 0).toNat = c00 at *
    cases sg
    · have hsg := hsg0 rfl
      refine T ?_
      rw [hs0]
      refine T (call_by (J1 rfl) ?_)
      refine T (call_by X ?_)
      refine T ?_
      rw [sb_eql, ht, Option.map_some]
      refine T (r_ret ?_)
      rw [Tryd.results23]
      refine R ?_
      exact Wk.refl _
    · have hsg := hsg1 rfl
      refine T ?_
      rw [hs0]
      refine T (call_by (J1 rfl) ?_)
      refine T (call_by X ?_)
      refine T ?_
      rw [sb_eql, ht, Option.map_some]
      refine T (r_ret ?_)
      rw [Tryd.results23]
      refine R ?_
      exact Wk.refl _
end Go.Ab
end

import Derived.Test.YtiamjfckgmnijaaGreatDoorFnNg
import Derived.Test.YtiamjfckgmnijaaGreatDoorFnO
import Derived.Test.YtiamjfckgmnijaaGreatDoorFnQ
import Derived.Test.YtiamjfckgmnijaaGreatDoorFnNd
import Derived.Test.YtiamjfckgmnijaaGreatDoorFnM
set_option linter.all false
section
namespace Go.Ab
open Go Go.Proofs Go.Proofs.YtiamjfckgmnijaaGreatDoor.Pl
set_option maxRecDepth 100000
set_option maxHeartbeats 8000000
def n_isD (b : UInt8) : Bool := decide (48 ≤ b.toNat ∧ b.toNat ≤ 57)
theorem n_len_s (s : ByteArray) : s.data.toList.length = s.size := by
  rw [Array.length_toList]
  rfl
theorem n_all_take {l : List UInt8} {n : Nat} (h : n < l.length) (ha : (l.take n).all n_isD = true) : (l.take (n + 1)).all n_isD = n_isD (l.getD n 0) := by
  rw [List.take_add_one, List.all_append, ha, List.getD_eq_getElem?_getD, List.getElem?_eq_getElem h]
  simp
theorem n_all_no {l : List UInt8} {n : Nat} (h : n < l.length) (hb : n_isD (l.getD n 0) = false) : l.all n_isD = false := by
  rw [List.all_eq_false]
  refine ⟨l.getD n 0, ?_, by rw [hb]; decide⟩
  rw [List.getD_eq_getElem?_getD, List.getElem?_eq_getElem h]
  exact List.getElem_mem h
theorem n_Digits (s : ByteArray) (hs : s.size ≤ 140737488355328) : Spec Tryz.prog 98 [.sc (.string s)] (.sc (.bool (s.data.toList.all n_isD && decide (0 < s.size)))) := by
  refine spec_of_awp mixed Tryz.func98 rfl Tryz.call98 (by kernel_rfl) (by simp) rfl ?_
  have hlen := n_len_s s
  refine T (w_loop (α := Nat) (fun n => [(.t 0, .sc (.string s)), (.t 3, .sc (.int .i64 n))]) (fun n => n ≤ s.size ∧ (s.data.toList.take n).all n_isD = true) (fun n => s.size - n) 0 ⟨Nat.zero_le _, by simp⟩ ?_ ?_)
  · exact Hk rfl <| Hk rfl trivial
  rintro n r ⟨hn, ha⟩ J hJ
  by_cases h : n = s.size
  · rw [← hlen] at h
    rw [h, List.take_length] at ha
    rw [ha, Bool.true_and]
    by_cases h0 : 0 < s.size
    · rw [decide_eq_true h0]
      refine T (r_ret ?_)
      rw [Tryz.results98]
      refine R ?_
      exact Wk.refl _
    · rw [decide_eq_false h0]
      refine T (r_ret ?_)
      rw [Tryz.results98]
      refine R ?_
      exact Wk.refl _
  · have hl : n < s.data.toList.length := by omega
    have at1 := n_all_take hl ha
    have an := n_all_no hl
    have hb : n_isD (s.data.toList.getD n 0) = decide (48 ≤ (s.data.toList.getD n 0).toNat ∧ (s.data.toList.getD n 0).toNat ≤ 57) := rfl
    generalize hc : (s.data.toList.getD n 0).toNat = c at *
    by_cases c1 : c < 48
    · rw [an (by rw [hb, decide_eq_false (by omega)]), Bool.false_and]
      refine T ?_
      rw [hc]
      refine T (r_ret ?_)
      rw [Tryz.results98]
      refine R ?_
      exact Wk.refl _
    by_cases c2 : 57 < c
    · rw [an (by rw [hb, decide_eq_false (by omega)]), Bool.false_and]
      refine T ?_
      rw [hc]
      refine T (r_ret ?_)
      rw [Tryz.results98]
      refine R ?_
      exact Wk.refl _
    · refine T ?_
      rw [hc]
      refine T ?_
      exact hJ _ (n + 1) (by omega) ⟨by omega, by rw [at1, hb, decide_eq_true (by omega)]⟩ (Hk rfl <| Hk (congrArg (fun z => AV.sc (Value.int .i64 z)) (by omega)) trivial)
theorem n_Digits1 (l : List UInt8) (h0 : 0 < l.length) (hl : l.length ≤ 1000) (hd : ∀ c ∈ l, 48 ≤ c.toNat ∧ c.toNat ≤ 57) : Spec Tryz.prog 98 [.sc (.string ⟨l.toArray⟩)] (.sc (.bool true)) := by
  have h := n_Digits ⟨l.toArray⟩ (by rw [n_sz]; omega)
  rw [show (⟨l.toArray⟩ : ByteArray).data.toList = l from rfl, n_sz, decide_eq_true h0, Bool.and_true, show l.all n_isD = true from List.all_eq_true.2 fun c hc => decide_eq_true (hd c hc)] at h
  exact h
theorem rdv_lt : ∀ l : List UInt8, (∀ c ∈ l, 48 ≤ c.toNat ∧ c.toNat ≤ 57) → rdv l < 10 ^ l.length := by
  intro l
  rcases List.eq_nil_or_concat l with rfl | ⟨k, c, rfl⟩
  · intro _; decide
  · intro h
    have ih := rdv_lt k fun x hx => h x (by simp [hx])
    have hc := h c (by simp)
    rw [List.concat_eq_append, rdv_snoc, List.length_append, List.length_singleton, Nat.pow_succ]
    omega
termination_by l => l.length
decreasing_by subst_vars; simp
theorem rdv_len {l : List UInt8} (h : ∀ c ∈ l, 48 ≤ c.toNat ∧ c.toNat ≤ 57) : (N (rdv l : Int)).length ≤ l.length := by
  refine (N_is (Int.natCast_nonneg _)).len ?_
  have h1 := rdv_lt l h
  have h2 : 10 ^ l.length ≤ 4294967296 ^ l.length := Nat.pow_le_pow_left (by decide) _
  have h3 : ((rdv l : Nat) : Int) < ((4294967296 ^ l.length : Nat) : Int) := by omega
  rw [Int.natCast_pow] at h3
  exact h3
theorem take_snoc8 {l : List UInt8} {n : Nat} (h : n < l.length) : l.take (n + 1) = l.take n ++ [l.getD n 0] := by
  rw [List.take_add_one, List.getD_eq_getElem?_getD, List.getElem?_eq_getElem h]
  rfl
theorem getD_mem8 {l : List UInt8} {n : Nat} (h : n < l.length) : l.getD n 0 ∈ l := by
  rw [List.getD_eq_getElem?_getD, List.getElem?_eq_getElem h]
  exact List.getElem_mem h
def nV (v : Int) (i : Nat) : AV := if i = 0 then .sc (.slice none 0 0) else U (N v)
theorem q2_natural (s : List UInt8) (h0 : 0 < s.length) (hl : s.length ≤ 1000) (hd : ∀ c ∈ s, 48 ≤ c.toNat ∧ c.toNat ≤ 57) : Spec Tryz.prog 82 [.sc (.string ⟨s.toArray⟩)] (U (N (rdv s : Int))) := by
  refine spec_of_awp mixed Tryz.func82 rfl Tryz.call82 (by kernel_rfl) (by simp) rfl ?_
  have sz := n_sz s
  have sl : (⟨s.toArray⟩ : ByteArray).data.toList = s := rfl
  generalize (⟨s.toArray⟩ : ByteArray) = S at *
  refine T (w_loop (α := Nat) (fun i => [(.t 0, .sc (.string S)), (.t 3, nV (rdv (s.take i)) i), (.t 4, .sc (.int .i64 i))]) (fun i => i ≤ s.length) (fun i => s.length - i) 0 (Nat.zero_le _) ?_ ?_)
  · exact Hk rfl <| Hk rfl <| Hk rfl trivial
  rintro i r hi J hJ
  by_cases h : i < s.length
  · have hc := hd _ (getD_mem8 h)
    have dt : ∀ c ∈ s.take i, 48 ≤ c.toNat ∧ c.toNat ≤ 57 := fun c hc => hd c (List.mem_of_mem_take hc)
    have lN := rdv_len dt
    rw [List.length_take] at lN
    have v0 : (0 : Int) ≤ (rdv (s.take i) : Int) := Int.natCast_nonneg _
    have cT := q_Times (N (rdv (s.take i) : Int)) [10] (N_wf _) (by intro x hx; simp at hx; omega) (by omega) (by simp)
    obtain ⟨q, hq⟩ : ∃ q : Int, q = ((s.getD i 0).toNat : Int) - 48 := ⟨_, rfl⟩
    have cP := q_Plus (N ((rdv (s.take i) : Int) * 10)) [q] (N_wf _) (by intro x hx; rw [List.mem_singleton] at hx; omega) (by
      have : (N ((rdv (s.take i) : Int) * 10)).length ≤ i + 1 := by
        refine (N_is (by omega)).len ?_
        have h1 := rdv_lt _ dt
        have h2 : 10 ^ (i + 1) ≤ 4294967296 ^ (i + 1) := Nat.pow_le_pow_left (by decide) _
        rw [List.length_take, Nat.min_eq_left hi] at h1
        rw [Nat.pow_succ] at h2
        have h3 : ((rdv (s.take i) * 10 : Nat) : Int) < ((4294967296 ^ (i + 1) : Nat) : Int) := by omega
        rw [Int.natCast_pow] at h3
        rw [show ((rdv (s.take i) * 10 : Nat) : Int) = (rdv (s.take i) : Int) * 10 by omega] at h3
        exact h3
      omega) (by simp)
    rw [N_val v0, show val [10] = 10 from rfl] at cT
    rw [N_val (by omega), show val [q] = q by simp [val]] at cP
    have ev : (rdv (s.take i) : Int) * 10 + q = (rdv (s.take (i + 1)) : Int) := by
      rw [take_snoc8 h, rdv_snoc]
      omega
    rw [ev] at cP
    by_cases i0 : i = 0
    · subst i0
      dsimp only [nV]
      rw [if_pos rfl]
      rw [List.take_zero] at cT cP
      rw [show N ((rdv [] : Nat) : Int) = [] from N_zero] at cT
      refine T (dcall_wk (WkL.cons Wk.nil (WkL.refl _)) cT ?_)
      refine T ?_
      rw [sl]
      refine T ?_
      refine T (dcall_eq (show [U (N ((rdv [] : Nat) * 10)), U [((s.getD 0 0).toNat : Int) - 48]] = [U (N ((rdv [] : Nat) * 10)), U [q]] by rw [hq]) cP ?_)
      refine T ?_
      exact hJ _ (0 + 1) (by omega) (by omega) (Hk rfl <| Hk rfl <| Hk rfl trivial)
    · dsimp only [nV]
      rw [if_neg i0]
      refine T (dcall_by cT ?_)
      refine T ?_
      rw [sl]
      refine T ?_
      refine T (dcall_eq (show [U (N ((rdv (s.take i) : Nat) * 10)), U [((s.getD i 0).toNat : Int) - 48]] = [U (N ((rdv (s.take i) : Nat) * 10)), U [q]] by rw [hq]) cP ?_)
      refine T ?_
      exact hJ _ (i + 1) (by omega) (by omega) (Hk rfl <| Hk rfl <| Hk rfl trivial)
  · have e : i = s.length := by omega
    subst e
    rw [List.take_length]
    unfold nV
    rw [if_neg (by omega)]
    refine T (r_ret ?_)
    rw [Tryz.results82]
    refine R ?_
    exact Wk.refl _
end Go.Ab
end
section
namespace Go.Ab
open Go Go.Proofs Go.Proofs.YtiamjfckgmnijaaGreatDoor.Pl
set_option maxRecDepth 100000
set_option maxHeartbeats 8000000
theorem q2_Cut (s a b : ByteArray) (h0 : 0 < s.size) (hs : s.size ≤ 1000) (c0 : 48 ≤ (s.data.toList.getD 0 0).toNat) (hb : b.size ≤ 1000) (da : Spec Tryz.prog 98 [.sc (.string a)] (.sc (.bool true))) (db : Spec Tryz.prog 98 [.sc (.string b)] (.sc (.bool true)))
    (z : Nat) (hz : z < b.size) (hz1 : (b.data.toList.getD z 0).toNat ≠ 48) (hz2 : ∀ i, i < z → (b.data.toList.getD i 0).toNat = 48)
    (hcut : (a = s ∧ b = ⟨#[49]⟩ ∧ ∀ i, i < s.size → (s.data.toList.getD i 0).toNat ≠ 47) ∨ (∃ k, k < s.size ∧ (s.data.toList.getD k 0).toNat = 47 ∧ (∀ i, i < k → (s.data.toList.getD i 0).toNat ≠ 47) ∧ a = s.extract 0 k ∧ b = s.extract (k + 1) s.size)) :
    Spec Tryz.prog 81 [.sc (.string s)] (.tup [.sc (.bool false), .sc (.string a), .sc (.string b), .sc (.bool true)]) := by
  refine spec_of_awp mixed Tryz.func81 rfl Tryz.call81 (by kernel_rfl) (by simp) rfl ?_
  have first : ∀ i : Nat, i < s.size → (i = 0 → (s.data.toList.getD i 0).toNat ≠ 43 ∧ (s.data.toList.getD i 0).toNat ≠ 45) := fun i _ h => by subst h; omega
  obtain ⟨c, hc⟩ : ∃ c, c = (s.data.toList.getD 0 0).toNat := ⟨_, rfl⟩
  rw [← hc] at c0
  refine TB ?_
  rw [← hc]
  refine TB ?_
  rcases hcut with ⟨ha, hb1, hne⟩ | ⟨k, hk, hk1, hne, ha, hb1⟩
  · subst ha
    refine w_loop (α := Nat) (fun i => [(.t 0, .sc (.string a)), (.t 6, .sc (.bool false)), (.t 7, .sc (.string a)), (.t 8, .sc (.string b)), (.t 9, .sc (.int .i64 i))]) (fun i => i ≤ a.size) (fun i => a.size - i) 0 (Nat.zero_le _) ?_ ?_
    · exact Hk rfl <| Hk rfl <| Hk rfl <| Hk (congrArg (fun z => AV.sc (Value.string z)) hb1.symm) <| Hk rfl trivial
    rintro i r hi J hJ
    by_cases h : i = a.size
    · subst h
      refine T (call_by da ?_)
      refine T (call_by db ?_)
      refine T (w_loop (α := Nat) (fun i => [(.t 6, .sc (.bool false)), (.t 7, .sc (.string a)), (.t 8, .sc (.string b)), (.t 10, .sc (.int .i64 i))]) (fun i => i ≤ z) (fun i => z - i) 0 (Nat.zero_le _) ?_ ?_)
      · exact Hk rfl <| Hk rfl <| Hk rfl <| Hk rfl trivial
      rintro i r3 hi J3 hJ3
      by_cases h : i = z
      · subst h
        generalize hd : (b.data.toList.getD i 0).toNat = d at *
        refine T ?_
        rw [hd]
        refine T (r_ret ?_)
        rw [Tryz.results81]
        refine R ?_
        exact Wk.refl _
      · have h48 := hz2 i (by omega)
        refine T ?_
        rw [h48]
        refine T ?_
        exact hJ3 _ (i + 1) (by omega) (by omega) (Hk rfl <| Hk rfl <| Hk rfl <| Hk rfl trivial)
    · have h47 := hne i (by omega)
      generalize hd : (a.data.toList.getD i 0).toNat = d at *
      refine T ?_
      rw [hd]
      refine T ?_
      exact hJ _ (i + 1) (by omega) (by omega) (Hk rfl <| Hk rfl <| Hk rfl <| Hk rfl <| Hk rfl trivial)
  · refine w_loop (α := Nat) (fun i => [(.t 0, .sc (.string s)), (.t 6, .sc (.bool false)), (.t 7, .sc (.string s)), (.t 8, .sc (.string ⟨#[49]⟩)), (.t 9, .sc (.int .i64 i))]) (fun i => i ≤ k) (fun i => k - i) 0 (Nat.zero_le _) ?_ ?_
    · exact Hk rfl <| Hk rfl <| Hk rfl <| Hk rfl <| Hk rfl trivial
    rintro j r hi J hJ
    by_cases h : j = k
    · subst h
      refine T ?_
      rw [hk1]
      refine T ?_
      rw [← ha, ← hb1]
      refine call_by da ?_
      refine T (call_by db ?_)
      refine T (w_loop (α := Nat) (fun i => [(.t 6, .sc (.bool false)), (.t 7, .sc (.string a)), (.t 8, .sc (.string b)), (.t 10, .sc (.int .i64 i))]) (fun i => i ≤ z) (fun i => z - i) 0 (Nat.zero_le _) ?_ ?_)
      · exact Hk rfl <| Hk rfl <| Hk rfl <| Hk rfl trivial
      rintro i r3 hi J3 hJ3
      by_cases h : i = z
      · subst h
        generalize hd : (b.data.toList.getD i 0).toNat = d at *
        refine T ?_
        rw [hd]
        refine T (r_ret ?_)
        rw [Tryz.results81]
        refine R ?_
        exact Wk.refl _
      · have h48 := hz2 i (by omega)
        refine T ?_
        rw [h48]
        refine T ?_
        exact hJ3 _ (i + 1) (by omega) (by omega) (Hk rfl <| Hk rfl <| Hk rfl <| Hk rfl trivial)
    · have h47 := hne j (by omega)
      generalize hd : (s.data.toList.getD j 0).toNat = d at *
      refine T ?_
      rw [hd]
      refine T ?_
      exact hJ _ (j + 1) (by omega) (by omega) (Hk rfl <| Hk rfl <| Hk rfl <| Hk rfl <| Hk rfl trivial)
end Go.Ab
end
section
namespace Go.Ab
open Go Go.Proofs Go.Proofs.YtiamjfckgmnijaaGreatDoor.Pl
set_option maxRecDepth 100000
set_option maxHeartbeats 8000000
theorem n_cutl (a b : List UInt8) : (⟨(a ++ 47 :: b).toArray⟩ : ByteArray).extract 0 a.length = ⟨a.toArray⟩ := by
  apply ByteArray.ext
  rw [ByteArray.data_extract]
  apply Array.toList_inj.1
  rw [Array.toList_extract, List.extract_eq_take_drop]
  simp
theorem n_cutr (a b : List UInt8) (n : Nat) (hn : n = a.length + 1 + b.length) : (⟨(a ++ 47 :: b).toArray⟩ : ByteArray).extract (a.length + 1) n = ⟨b.toArray⟩ := by
  subst hn
  apply ByteArray.ext
  rw [ByteArray.data_extract]
  apply Array.toList_inj.1
  rw [Array.toList_extract, List.extract_eq_take_drop]
  simp
theorem dgs_first (n : Nat) : 48 ≤ ((dgs n).getD 0 0).toNat ∧ ((dgs n).getD 0 0).toNat ≤ 57 := dgs_dig n _ (getD_mem8 (dgs_pos n))
theorem dgs_nz (n : Nat) (h : n ≠ 0) : ∃ z, z < (dgs n).length ∧ ((dgs n).getD z 0).toNat ≠ 48 ∧ ∀ i, i < z → ((dgs n).getD i 0).toNat = 48 := by
  have key : ∀ m, (∀ i, i < m → ((dgs n).getD i 0).toNat = 48) → m ≤ (dgs n).length → (∀ z, z < (dgs n).length → ((dgs n).getD z 0).toNat ≠ 48 → m ≤ z) := by
    intro m h1 _ z _ h2
    rcases Nat.lt_or_ge z m with h3 | h3
    · exact absurd (h1 z h3) h2
    · exact h3
  by_cases hex : ∃ z, z < (dgs n).length ∧ ((dgs n).getD z 0).toNat ≠ 48
  · clear key
    obtain ⟨z, hz⟩ := hex
    induction z using Nat.strongRecOn with
    | _ z ih =>
      by_cases hm : ∃ i, i < z ∧ ((dgs n).getD i 0).toNat ≠ 48
      · obtain ⟨i, h1, h2⟩ := hm
        exact ih i h1 ⟨by omega, h2⟩
      · refine ⟨z, hz.1, hz.2, fun i hi => ?_⟩
        rcases Nat.decEq ((dgs n).getD i 0).toNat 48 with h2 | h2
        · exact absurd ⟨i, hi, h2⟩ hm
        · exact h2
  · exfalso
    have hall : ∀ l : List UInt8, (∀ c ∈ l, c.toNat = 48) → rdv l = 0 := by
      intro l
      rcases List.eq_nil_or_concat l with rfl | ⟨k, c, rfl⟩
      · intro _; rfl
      · intro hl
        have : ∀ (k : List UInt8) (a : Nat), (∀ c ∈ k, c.toNat = 48) → a = 0 → k.foldl (fun a c => a * 10 + (c.toNat - 48)) a = 0 := by
          intro k
          induction k with
          | nil => intro a _ h; exact h
          | cons c k ih =>
            intro a hk ha
            rw [List.foldl_cons]
            refine ih _ (fun x hx => hk x (by simp [hx])) ?_
            rw [hk c (by simp), ha]
        exact this _ 0 hl rfl
    have h0 := hall (dgs n) fun c hc => by
      obtain ⟨i, hi, e⟩ := List.mem_iff_getElem.1 hc
      rcases Nat.decEq c.toNat 48 with h2 | h2
      · exact absurd ⟨i, hi, by rw [List.getD_eq_getElem?_getD, List.getElem?_eq_getElem hi, Option.getD_some, e]; exact h2⟩ hex
      · exact h2
    rw [rdv_dgs] at h0
    exact h h0
theorem mk_id {n d : List Int} (hn : Wf n) (hd : Wf d) (hf : formB false n d = true) : mkR false (val n) (val d) = ((false, n, d), 0) := by
  have hF := of_decide_eq_true hf
  obtain ⟨f1, f2, f3, _, f5⟩ := hF
  obtain ⟨ln, tn⟩ := of_decide_eq_true f1
  obtain ⟨ld, td⟩ := of_decide_eq_true f2
  have vd := val_ne hd td f3
  have en : N (val n) = n := by rw [← trim_N hn, tn]
  have ed : N (val d) = d := by rw [← trim_N hd, td]
  unfold mkR
  rw [if_neg vd]
  by_cases hu : val n = 0
  · rw [if_pos hu]
    rw [hu, N_zero] at en
    have h1 : val d = 1 := by
      rw [hu, Int.gcd_zero_left] at f5
      have := val_nonneg hd
      omega
    rw [← en, ← ed, h1, (N_eq_one (by decide)).2 rfl]
  · rw [if_neg hu, f5, show ((1 : Nat) : Int) = 1 from rfl, Int.ediv_one, Int.ediv_one, en, ed, if_pos ⟨ln, ld⟩]
theorem read_nat {n : List Int} (hn : Wf n) (tn : trim n = n) (ln : n.length ≤ 16) : Spec Tryz.prog 82 [.sc (.string ⟨(dgs (val n).toNat).toArray⟩)] (U n) := by
  have h := q2_natural (dgs (val n).toNat) (dgs_pos _) (by have := dgs_16 hn ln; omega) (dgs_dig _)
  rw [rdv_dgs, Int.toNat_of_nonneg (val_nonneg hn), ← trim_N hn, tn] at h
  exact h
theorem q2_Read (n d : List Int) (hn : Wf n) (hd : Wf d) (hf : formB false n d = true) : Spec Tryz.prog 44 [.sc (.string ⟨(tx2 n d).toArray⟩)] (resR ((false, n, d), 0)) := by
  have hF := of_decide_eq_true hf
  obtain ⟨f1, f2, f3, _, _⟩ := hF
  obtain ⟨ln, tn⟩ := of_decide_eq_true f1
  obtain ⟨ld, td⟩ := of_decide_eq_true f2
  have zn := dgs_16 hn ln
  have zd := dgs_16 hd ld
  have pn := dgs_pos (val n).toNat
  have pd := dgs_pos (val d).toNat
  have vd := val_ne hd td f3
  have v0 := val_nonneg hd
  have cM := q2_Make false n d hn hd (by omega) (by omega)
  rw [mk_id hn hd hf] at cM
  have c1 := read_nat hn tn ln
  have hlen := tx2_len hn hd ln ld
  obtain ⟨b, cC, cB⟩ : ∃ b : ByteArray, Spec Tryz.prog 81 [.sc (.string ⟨(tx2 n d).toArray⟩)] (.tup [.sc (.bool false), .sc (.string ⟨(dgs (val n).toNat).toArray⟩), .sc (.string b), .sc (.bool true)]) ∧ Spec Tryz.prog 82 [.sc (.string b)] (U d) := by
    have dN := n_Digits1 (dgs (val n).toNat) pn (by omega) (dgs_dig _)
    by_cases h1 : d = [1]
    · have e : tx2 n d = dgs (val n).toNat := if_pos h1
      have c2 := q2_natural [49] (by simp) (by simp) (by simp)
      have dD := n_Digits1 [49] (by simp) (by simp) (by simp)
      rw [show N ((rdv [49] : Nat) : Int) = [1] from (N_eq_one (by decide)).2 rfl, ← h1] at c2
      rw [e]
      refine ⟨⟨#[49]⟩, q2_Cut _ _ _ (by rw [n_sz]; exact pn) (by rw [n_sz]; omega) (dgs_first _).1 (by decide) dN dD 0 (by decide) (by decide) (fun i h => by omega) (.inl ⟨rfl, rfl, fun i hi => ?_⟩), c2⟩
      rw [n_sz] at hi
      have := dgs_dig _ _ (getD_mem8 hi)
      show ((dgs (val n).toNat).getD i 0).toNat ≠ 47
      omega
    · have e : tx2 n d = dgs (val n).toNat ++ 47 :: dgs (val d).toNat := if_neg h1
      have dD := n_Digits1 (dgs (val d).toNat) pd (by omega) (dgs_dig _)
      obtain ⟨z, z1, z2, z3⟩ := dgs_nz (val d).toNat (by omega)
      rw [e] at hlen ⊢
      have f1 := dgs_first (val n).toNat
      have fi := fun i (hi : i < (dgs (val n).toNat).length) => dgs_dig _ _ (getD_mem8 hi)
      have c2 := read_nat hd td ld
      have hsz : (dgs (val n).toNat ++ 47 :: dgs (val d).toNat).length = (dgs (val n).toNat).length + 1 + (dgs (val d).toNat).length := by rw [List.length_append, List.length_cons]; omega
      generalize dgs (val n).toNat = A at *
      generalize dgs (val d).toNat = B at *
      have gl : ∀ i, i < A.length → (A ++ 47 :: B).getD i 0 = A.getD i 0 := by
        intro i hi
        rw [List.getD_eq_getElem?_getD, List.getElem?_append_left hi, ← List.getD_eq_getElem?_getD]
      refine ⟨⟨B.toArray⟩, q2_Cut _ _ _ (by rw [n_sz]; omega) (by rw [n_sz]; omega) ?_ (by rw [n_sz]; omega) dN dD z (by rw [n_sz]; exact z1) z2 z3 (.inr ⟨A.length, by rw [n_sz]; omega, ?_, fun i hi => ?_, (n_cutl A B).symm, (n_cutr A B _ (by rw [n_sz]; exact hsz)).symm⟩), c2⟩
      · show 48 ≤ ((A ++ 47 :: B).getD 0 0).toNat
        rw [gl 0 pn]
        exact f1.1
      · show ((A ++ 47 :: B).getD A.length 0).toNat = 47
        rw [List.getD_eq_getElem?_getD, List.getElem?_append_right (Nat.le_refl _), Nat.sub_self]
        rfl
      · show ((A ++ 47 :: B).getD i 0).toNat ≠ 47
        rw [gl i hi]
        have := fi i hi
        omega
  have hs : (⟨(tx2 n d).toArray⟩ : ByteArray).size ≤ 311 := by rw [n_sz]; exact hlen
  generalize (⟨(tx2 n d).toArray⟩ : ByteArray) = s at *
  generalize (⟨(dgs (val n).toNat).toArray⟩ : ByteArray) = a at *
  refine spec_of_awp mixed Tryz.func44 rfl Tryz.call44 (by kernel_rfl) (by simp) rfl ?_
  refine T (call_by cC ?_)
  refine T (call_by c1 ?_)
  refine T (call_by cB ?_)
  refine T (call_by cM ?_)
  exact TR rfl
end Go.Ab
end

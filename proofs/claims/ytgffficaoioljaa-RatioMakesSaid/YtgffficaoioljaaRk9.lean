import Derived.Test.YtgffficaoioljaaRk8
import Derived.Laws.CopyOwn
section
set_option linter.unusedVariables false
set_option linter.unusedSimpArgs false
namespace Go.Proofs.YtgffficaoioljaaW.PrintWords
open Go.RowKit
namespace Mine
section
variable {P : Program} {ops : Array Oper} {rest : List Oper} {o : Oper} {a : Act} {Q : Exit → Act → World → Prop} {α : Type}
end
theorem add_off (g off j : Nat) : (⟨g, off, none⟩ : Addr).add j = ⟨g, off + j, none⟩ := by
 unfold Addr.add
 split
 ·rename_i h; simp_all
 ·rfl
def SegR (pre post : List Int) (c0 : Nat) (e : Nat) (w : World) (base : Nat) (ok : Nat → Prop) (v : Value) (xs : List Int) : Prop :=
 (∀ k, v.ownBlock = some k → ok k) ∧ ∃ g cap n, v = .slice (some ⟨g, pre.length, none⟩) xs.length cap ∧ xs.length ≤ cap ∧ (Kd.int .u32).R e w base ok (.slice (some ⟨g, 0, none⟩) n c0) (pre ++ xs ++ post)
section
variable {pre post : List Int} {c0 : Nat} {e base : Nat} {w w1 W : World} {ok ok' : Nat → Prop} {v : Value} {xs : List Int}
theorem seg_mono (h : SegR pre post c0 e w base ok v xs) (hok : ∀ k, ok k → ok' k) : SegR pre post c0 e w base ok' v xs := by
 obtain ⟨h1, g, cap, n, hv, hc, hr⟩ := h
 exact ⟨fun k hk => hok k (h1 k hk), g, cap, n, hv, hc, Kd.Zv hr hok⟩
theorem seg_imp (h : SegR pre post c0 e w base ok v xs) (hi : ∀ g n, (Kd.int .u32).R e w base ok (.slice (some ⟨g, 0, none⟩) n c0) (pre ++ xs ++ post) → (Kd.int .u32).R e w1 base ok (.slice (some ⟨g, 0, none⟩) n c0) (pre ++ xs ++ post)) : SegR pre post c0 e w1 base ok v xs := by
 obtain ⟨h1, g, cap, n, hv, hc, hr⟩ := h
 exact ⟨h1, g, cap, n, hv, hc, hi _ _ hr⟩
theorem seg_drewN (h : SegR pre post c0 e w base ok v xs) (m : Nat) : SegR pre post c0 e (w.drewN m) base ok v xs := seg_imp h (fun _ _ hr => Kd.Ze hr m)
theorem rd_mid (i : Int) (h0 : 0 ≤ i) (hi : i < xs.length) : rd (pre ++ xs ++ post) ((pre.length : Int) + i) = rd xs i := by
 obtain ⟨j, rfl⟩ := Int.eq_ofNat_of_zero_le h0
 have hj : j < xs.length := by omega
 unfold rd
 rw [show ((pre.length : Int) + (j : Int)).toNat = pre.length + j from by omega, Int.toNat_natCast]
 simp only [List.getD_eq_getElem?_getD]
 rw [List.append_assoc, List.getElem?_append_right (by omega), Nat.add_sub_cancel_left, List.getElem?_append_left hj]
theorem seg_cells {g n cap : Nat} (h : SegR pre post c0 e w base ok (.slice (some ⟨g, pre.length, none⟩) n cap) xs) (i : Int) (h0 : 0 ≤ i) (hi : i < n) :
  w.cell? ⟨g, pre.length + i.toNat, none⟩ = some (.int .u32 (rd xs i)) ∧ w.frozen? ⟨g, pre.length + i.toNat, none⟩ = false := by
 obtain ⟨h1, g', cap', n', hv, hc, hr⟩ := h
 injection hv with ha hn hcc
 injection ha with ha
 injection ha with hg
 subst hg; subst hn; subst hcc
 have hn' := (Kd.Zs hr).1
 have hc1 := Kd.R_celln 0 hr ((pre.length : Int) + i) (by omega) (by rw [hn']; simp; omega)
 rw [show ((pre.length : Int) + i).toNat = pre.length + i.toNat from by omega] at hc1
 refine ⟨?_, hc1.2⟩
 have h2 := hc1.1
 have h3 : rdOf (0 : Int) (pre ++ xs ++ post) ((pre.length : Int) + i) = rd xs i := rd_mid i h0 hi
 rw [h3] at h2
 exact h2
theorem seg_reads' {A : Option Addr} {n c : Nat} (h : SegR pre post c0 e w base ok (.slice A n c) xs) : n = xs.length ∧ n ≤ c ∧ (Kd.int .u32).C w A xs.length xs := by
 have h0 := h
 obtain ⟨h1, g, cap, n', hv, hc, hr⟩ := h
 injection hv with ha hn hcc
 subst ha; subst hn; subst hcc
 refine ⟨rfl, hc, ?_⟩
 have hm : xs.length ≤ 9223372036854775807 := by
  have h2 := (Kd.Zs hr).2.2.2.1
  simp at h2
  omega
 refine Kd.C_of_reads (d := (0 : Int)) (h1 := fun _ => rfl) ⟨rfl, hm, fun hp => ⟨_, rfl, fun j hj => ?_⟩⟩
 have h2 := (seg_cells h0 (j : Int) (by omega) (by omega)).1
 rw [Int.toNat_natCast] at h2
 rw [add_off]
 exact h2
theorem seg_form (h : SegR pre post c0 e w base ok v xs) (hp : 0 < xs.length) : ∃ g cap, v = .slice (some ⟨g, pre.length, none⟩) xs.length cap ∧ base ≤ g ∧ g < w.heap.size ∧ ∃ cells, w.heap[g]? = some (.cells cells e (0, 0)) := by
 obtain ⟨h1, g, cap, n', hv, hc, hr⟩ := h
 obtain ⟨g', cap', he, hb, hl, hcl⟩ := Kd.R_form hr (by simp; omega)
 injection he with ha
 injection ha with ha
 injection ha with ha
 subst ha
 exact ⟨g, cap, hv, hb, hl, hcl⟩
theorem set_mid (i : Int) (x : Int) (h0 : 0 ≤ i) (hi : i < xs.length) : (pre ++ xs ++ post).set ((pre.length : Int) + i).toNat x = pre ++ xs.set i.toNat x ++ post := by
 obtain ⟨j, rfl⟩ := Int.eq_ofNat_of_zero_le h0
 rw [show ((pre.length : Int) + (j : Int)).toNat = pre.length + j from by omega, Int.toNat_natCast]
 rw [List.append_assoc, List.set_append_right _ _ (by omega), Nat.add_sub_cancel_left, List.set_append_left _ _ (by omega), List.append_assoc]
theorem seg_putg {g n cap : Nat} (h : SegR pre post c0 e W base ok (.slice (some ⟨g, pre.length, none⟩) n cap) xs) (i : Int) (x : Int) (h0 : 0 ≤ i) (hi : i < n) :
  SegR pre post c0 e (W.setCell ⟨g, pre.length + i.toNat, none⟩ (.int .u32 x)) base ok (.slice (some ⟨g, pre.length, none⟩) n cap) (xs.set i.toNat x) ∧ W.grownBy (W.setCell ⟨g, pre.length + i.toNat, none⟩ (.int .u32 x)) (some g) := by
 obtain ⟨h1, g', cap', n', hv, hc, hr⟩ := h
 injection hv with ha hn hcc
 injection ha with ha
 injection ha with hg
 subst hg; subst hn; subst hcc
 have hp := Kd.R_putg hr ((pre.length : Int) + i) x
 rw [set_mid i x h0 hi, show ((pre.length : Int) + i).toNat = pre.length + i.toNat from by omega] at hp
 exact ⟨⟨h1, g, cap, n', by simp, by simpa using hc, hp.1⟩, hp.2⟩
end
def segV (u : Value) (lo hi : Int) : Value := match u with
 | .slice (some a) _ c => .slice (some ⟨a.block, lo.toNat, none⟩) (hi.toNat - lo.toNat) (c - lo.toNat)
 | v => v
theorem seg_of_R {e base : Nat} {w : World} {ok : Nat → Prop} {u : Value} {l : List Int} (lo hi : Int) (h0 : 0 ≤ lo) (h1 : lo < hi) (h2 : hi ≤ l.length) (h : (Kd.int .u32).R e w base ok u l) :
  ∃ c0 g, u = .slice (some ⟨g, 0, none⟩) l.length c0 ∧ SegR (l.take lo.toNat) (l.drop hi.toNat) c0 e w base ok (segV u lo hi) ((l.take hi.toNat).drop lo.toNat) := by
 obtain ⟨g, c0, rfl, hb, hl, _⟩ := Kd.R_form h (by omega)
 have hcap := (Kd.Zs h).2.1
 have hlen : ((l.take hi.toNat).drop lo.toNat).length = hi.toNat - lo.toNat := by rw [List.length_drop, List.length_take]; omega
 have hpl : (l.take lo.toNat).length = lo.toNat := by rw [List.length_take]; omega
 refine ⟨c0, g, rfl, fun k hk => h.1 k (by simpa [segV, Value.ownBlock] using hk), g, c0 - lo.toNat, l.length, ?_, ?_, ?_⟩
 ·rw [hlen, hpl]; rfl
 ·rw [hlen]; omega
 ·have he : l.take lo.toNat ++ (l.take hi.toNat).drop lo.toNat ++ l.drop hi.toNat = l := by
   have e1 : l.take lo.toNat = (l.take hi.toNat).take lo.toNat := by rw [List.take_take, Nat.min_eq_left (by omega)]
   rw [e1, List.take_append_drop, List.take_append_drop]
  rw [he]
  exact h
theorem R_of_seg {pre post : List Int} {c0 e base g n : Nat} {w : World} {ok : Nat → Prop} {v : Value} {xs : List Int} (h : SegR pre post c0 e w base ok v xs) (hv : v.ownBlock = some g) (hn : (pre ++ xs ++ post).length = n) :
  (Kd.int .u32).R e w base ok (.slice (some ⟨g, 0, none⟩) n c0) (pre ++ xs ++ post) := by
 obtain ⟨h1, g', cap, n', rfl, hc, hr⟩ := h
 have : g' = g := by simpa [Value.ownBlock] using hv
 subst this
 have hn' := (Kd.Zs hr).1
 rw [hn'] at hr
 rw [← hn]
 exact hr
theorem seg_len {pre post : List Int} {c0 e base : Nat} {w : World} {ok : Nat → Prop} {A : Option Addr} {n c : Nat} {xs : List Int} (h : SegR pre post c0 e w base ok (.slice A n c) xs) : xs.length = n := (seg_reads' h).1.symm
section
variable {P : Program}
theorem seg_cut (t e : TypeId) (ht : P.underlying t = some (.slice e)) {i : TypeInfo} (hi : P.info? e = some i) (hsz : i.size = 1) (g n c : Nat) (lo hi_ : Int) (h0 : 0 ≤ lo) (h1 : lo < hi_) (h2 : hi_ ≤ n) (hc : n ≤ c) :
  ∀ W : World, (Instr.slice t (.slice (some ⟨g, 0, none⟩) n c) (some (.int .i64 lo)) (some (.int .i64 hi_)) none).run P W = .ok (.slice (some ⟨g, lo.toNat, none⟩) (hi_.toNat - lo.toNat) (c - lo.toNat)) W := by
 intro W
 rw [cut_mid (P := P) t e .i64 .i64 ht hi 1 hsz (some ⟨g, 0, none⟩) n c lo hi_ h0 (by omega) h2 hc W, if_neg (by omega)]
 simp [add_plain]
end
section
variable {P : Program} {ops : Array Oper} {rest : List Oper} {o : Oper} {a : Act} {Q : Exit → Act → World → Prop}
theorem grownBy_setRow (W : World) (g : Nat) (cs : Array Value) : W.grownBy (W.setRow g cs) (some g) :=
 ⟨rfl, rfl, rfl, by simp [World.setRow], fun k _ hne => setRow_other W g k cs (fun he => hne (by rw [he]))⟩
theorem splice_take {α : Type} (L C : List α) (n : Nat) (hC : C.length ≤ n) : (L.take 0 ++ (C ++ L.drop (0 + C.length))).take n = C ++ (L.take n).drop C.length := by
 simp only [List.take_zero, List.nil_append, Nat.zero_add]
 rw [List.take_append, List.take_of_length_le hC, List.drop_take]
theorem splice_size {α : Type} (L C : List α) (hC : C.length ≤ L.length) : (L.take 0 ++ (C ++ L.drop (0 + C.length))).length = L.length := by
 simp only [List.take_zero, List.nil_append, Nat.zero_add, List.length_append, List.length_drop]
 omega
theorem drop_min (k : IntKind) (xs ys : List Int) : (nums k xs).drop (Nat.min ys.length xs.length) = nums k (xs.drop ys.length) := by
 rcases Nat.le_total ys.length xs.length with h | h
 ·rw [show Nat.min ys.length xs.length = ys.length from Nat.min_eq_left h]
  simp [nums, List.map_drop]
 ·rw [show Nat.min ys.length xs.length = xs.length from Nat.min_eq_right h, List.drop_of_length_le (show xs.length ≤ ys.length from h)]
  rw [List.drop_of_length_le (by rw [nums_length]; exact Nat.le_refl _)]
  rfl
theorem R_copy {k : IntKind} {w0 W : World} (base e : Nat) (hgd : o.guard = none) (s x : Operand) (t : TypeId) (ho : o.op = .call { callee := .builtin .copy, args := #[s, x], argTypes := #[t, t] })
  (ht : P.underlying t = some (.slice e)) (z : Value) (bytes : Nat) (hinfo : (P.info? e).map (fun i => (i.zero, i.size, i.bytes)) = some (some z, 1, bytes))
  (v : Value) (xs ys : List Int) (A : Option Addr) (c : Nat) {ok : Nat → Prop} (hs : a.eval s = v) (hx : a.eval x = .slice A ys.length c)
  (HO : (Kd.int k).R e W base ok v xs) (HR : (Kd.int k).C W A ys.length ys) (HB : Below base w0 W)
  (h : ∀ w1, (Kd.int k).R e w1 base ok v (ys.take xs.length ++ xs.drop ys.length) → Below base w0 w1 → W.grownBy w1 v.ownBlock → wpList P ops Q rest (a.put o.dst (goInt ((Nat.min ys.length xs.length : Nat) : Int))) w1) : wpList P ops Q (o :: rest) a W := by
 obtain ⟨i0, hi, hzz⟩ := Option.map_eq_some_iff.1 hinfo
 simp only [Prod.mk.injEq] at hzz
 obtain ⟨hz0, hz1, hz2⟩ := hzz
 have hsz : (P.info? e).map (·.size) = some 1 := by rw [hi]; simp [hz1]
 have hn : (nums k (ys.take xs.length)).length = Nat.min ys.length xs.length := by rw [nums_length, List.length_take, Nat.min_comm]
 have hown := Kd.own_of_R HO
 have hown' : W.ownsRow base e 1 v xs.length (nums k xs) := hown
 by_cases h0 : Nat.min ys.length xs.length = 0
 ·have hlist : ys.take xs.length ++ xs.drop ys.length = xs := by
   rcases Nat.eq_zero_or_pos xs.length with hx0 | hx0
   ·have : xs = [] := List.eq_nil_of_length_eq_zero hx0
    subst this; simp
   ·have hy0 : ys.length = 0 := by
     have : min ys.length xs.length = 0 := h0
     omega
    have : ys = [] := List.eq_nil_of_length_eq_zero hy0
    subst this; simp
  obtain ⟨A', c', hv⟩ := own_slice hown'
  refine wpList_copy_nothing hgd s x t t ho e ht hsz A' A xs.length c' ys.length c (by rw [hs, hv]) hx h0 ?_
  have h' := h W (by rw [hlist]; exact HO) HB (World.grownBy.refl W _)
  rw [h0] at h'
  exact h'
 ·have hm : min ys.length xs.length ≠ 0 := h0
  have hxp : 0 < xs.length := by omega
  have hyp : 0 < ys.length := by omega
  obtain ⟨hl, hrest⟩ := hown'
  rcases hrest with ⟨_, hbad⟩ | ⟨g, cap, cur, rfl, hb, hh, hnc, hcm, hcs, htk⟩
  ·omega
  ·obtain ⟨ad, hA, hcell⟩ := (Kd.reads_of_C (d := (0 : Int)) HR).2.2 hyp
   subst hA
   have hml : Nat.min ys.length xs.length ≤ xs.length := Nat.min_le_right _ _
   have hcl : cur.toList.length = cap := by rw [Array.length_toList, hcs, Nat.mul_one]
   refine wpList_copy_own hgd s x t t ho e ht hsz g 0 xs.length cap ad ys.length c hs hx cur e hh (nums k (ys.take xs.length)) hn ?_ ?_ ?_ ?_
   ·intro j u hu
    have hj : j < (ys.take xs.length).length := by
     rcases Nat.lt_or_ge j (ys.take xs.length).length with h | h
     ·exact h
     ·rw [List.getElem?_eq_none (by rw [nums_length]; exact h)] at hu
      cases hu
    have hj2 : j < ys.length := by rw [List.length_take] at hj; omega
    have hj3 : j < xs.length := by rw [List.length_take] at hj; omega
    rw [hcell j hj2]
    have hu2 : (nums k (ys.take xs.length))[j]? = some (.int k (ys.getD j 0)) := by
     simp [nums, List.getElem?_map, List.getElem?_take, hj3, List.getElem?_eq_getElem hj2, List.getD_eq_getElem?_getD]
    rw [hu2] at hu
    exact hu
   ·rw [hn, Nat.zero_add, hcs, Nat.mul_one]
    omega
   ·intro u hu
    simp only [nums, List.mem_map] at hu
    obtain ⟨q, _, rfl⟩ := hu
    rfl
   ·rw [hn]
    refine h _ ?_ ?_ (grownBy_setRow W g _)
    ·have hlen : (ys.take xs.length ++ xs.drop ys.length).length = xs.length := by
      simp only [List.length_append, List.length_take, List.length_drop]; omega
     refine Kd.R_of_own (h1 := fun _ => rfl) ?_ HO.1
     rw [hlen]
     refine ⟨?_, .inr ⟨g, cap, _, rfl, hb, setRow_heap W g cur _ e (0, 0) hh, hnc, hcm, ?_, ?_⟩⟩
     ·show (nums k (ys.take xs.length ++ xs.drop ys.length)).length = _
      rw [nums_length, hlen, Nat.mul_one]
     ·rw [Nat.mul_one, List.size_toArray, ← hn, splice_size _ _ (by rw [hn, hcl]; omega), hcl]
     ·show _ = nums k _
      rw [nums_append, Nat.mul_one, ← hn, splice_take _ _ _ (by rw [hn]; exact hml)]
      rw [show cur.toList.take xs.length = nums k xs from by simpa using htk]
      rw [hn, drop_min]
    ·exact below_setRow HB hb _
end
end Mine
end Go.Proofs.YtgffficaoioljaaW.PrintWords
end

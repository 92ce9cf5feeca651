import Derived.Test.YtiamjfckgmnijaaDoorFtFt5
set_option linter.all false
section
namespace Go.Ab
open Go Go.Proofs Go.RowKit Go.Sort Go.Lib
set_option maxRecDepth 100000
set_option maxHeartbeats 4000000
theorem s_CutInNo (s : ByteArray) (hi : Lib.indexByte s.data.toList 112 = -1) : Spec Tryd.prog 59 [.sc (.string s), .sc (.string ⟨#[112]⟩)] (.tup [.sc (.string s), .sc (.string ByteArray.empty), .sc (.bool false)]) := by
  refine spec_of_awp mixed Tryd.func59 rfl Tryd.call59 (by kernel_rfl) (by simp) rfl ?_
  have hx := s_Index1 s 112
  rw [hi] at hx
  refine T (call_by hx ?_)
  refine T (r_ret ?_)
  rw [Tryd.results59]
  refine R ?_
  exact Wk.refl _
theorem s_CutNo (s : ByteArray) (hi : Lib.indexByte s.data.toList 112 = -1) : Spec Tryd.prog 42 [.sc (.string s), .sc (.string ⟨#[112]⟩)] (.tup [.sc (.string s), .sc (.string ByteArray.empty), .sc (.bool false)]) := by
  refine spec_of_awp mixed Tryd.func42 rfl Tryd.call42 (by kernel_rfl) (by simp) rfl ?_
  refine T (call_by (s_CutInNo s hi) ?_)
  refine T (r_ret ?_)
  rw [Tryd.results42]
  refine R ?_
  exact Wk.refl _
theorem ans_cut {P : Program} {f : FuncId} {s c a b : ByteArray} {ok : Bool} (sp : Spec P f [.sc (.string s), .sc (.string c)] (.tup [.sc (.string a), .sc (.string b), .sc (.bool ok)])) : Ans P f #[.string s, .string c] fun v => v = .tuple #[.string a, .string b, .bool ok] := fun w hT =>
  (sp.calls M0 w [.string s, .string c] (fun _ h => h.elim) hT (by simp [RepL, Rep])).mono fun e w' he => by
    cases e with
    | panicked _ => exact he.elim
    | outgrown => exact he.elim
    | returned u =>
      obtain ⟨h1, h2⟩ := he
      simp only [Rep] at h1
      obtain ⟨vs, rfl, h3⟩ := h1
      refine ⟨_, rfl, ?_, h2, tab_ext hT h2⟩
      obtain ⟨l⟩ := vs
      rcases l with _ | ⟨v1, _ | ⟨v2, _ | ⟨v3, _ | ⟨v4, l⟩⟩⟩⟩ <;> simp only [RepL, Rep, and_false] at h3
      obtain ⟨rfl, rfl, rfl, _⟩ := h3
      rfl
theorem err_cell {w : World} (hT : TabOK w M0) (g : Nat) (hg : g ∈ errs) : ∃ te pe, w.cell? ⟨g, 0, none⟩ = some (.iface te pe) := (hT.2 g hg).2.2
theorem pu_bad (s : ByteArray) (hl : s.size ≤ 281474976710656) (h : ∀ u, Lib.parseUintB 64 s.data.toList ≠ .ok u) : Ans Tryd.prog 43 #[.string s, .int .i64 10, .int .i64 64] fun v => ∃ u e, v = .tuple #[.int .u64 u, e] ∧ Bad e := fun w hT => by
  obtain ⟨te, pe, c3⟩ := err_cell hT 3 (by simp [errs])
  obtain ⟨te', pe', c4⟩ := err_cell hT 4 (by simp [errs])
  rcases hp : Lib.parseUintB 64 s.data.toList with u | _ | _
  · exact (h u hp).elim
  · refine (Tryd.strconv_ParseUint_10_at64_syntax s hl (hp.trans rfl) _ w c3 (.inr ⟨_, _, rfl⟩)).mono fun e w' ⟨N, e1, _, _, hb⟩ => ?_
    exact ⟨_, e1, ⟨_, _, rfl, _, _, rfl⟩, ext_below hb, tab_ext hT (ext_below hb)⟩
  · refine (Tryd.strconv_ParseUint_10_at64_range s hl hp _ w c4 (.inr ⟨_, _, rfl⟩)).mono fun e w' ⟨N, e1, _, _, hb⟩ => ?_
    exact ⟨_, e1, ⟨_, _, rfl, _, _, rfl⟩, ext_below hb, tab_ext hT (ext_below hb)⟩
theorem at_bad (s : ByteArray) (hl : s.size ≤ 281474976710656) (h : ∀ u, Lib.atoiAll s.data.toList ≠ .ok u) : Ans Tryd.prog 44 #[.string s] fun v => ∃ u e, v = .tuple #[.int .i64 u, e] ∧ Bad e := fun w hT => by
  obtain ⟨te, pe, c3⟩ := err_cell hT 3 (by simp [errs])
  obtain ⟨te', pe', c4⟩ := err_cell hT 4 (by simp [errs])
  rcases hp : Lib.atoiAll s.data.toList with u | _ | _
  · exact (h u hp).elim
  · refine (Tryd.strconv_Atoi_syntax s hl (hp.trans rfl) _ w c3 (.inr ⟨_, _, rfl⟩)).mono fun e w' ⟨N, e1, _, _, hb⟩ => ?_
    exact ⟨_, e1, ⟨_, _, rfl, _, _, rfl⟩, ext_below hb, tab_ext hT (ext_below hb)⟩
  · refine (Tryd.strconv_Atoi_range s hl hp _ w c4 (.inr ⟨_, _, rfl⟩)).mono fun e w' ⟨N, e1, _, _, hb⟩ => ?_
    exact ⟨_, e1, ⟨_, _, rfl, _, _, rfl⟩, ext_below hb, tab_ext hT (ext_below hb)⟩
theorem ext_bytes {w w' : World} {s : ByteArray} (h : w' = w ∨ w' = Lib.bytesWorld w 5 s) : Ext M0 w w' := by
  rcases h with e2 | e2
  · subst e2; exact Ext.refl _ _
  · subst e2; exact ext_below (Lib.bytesWorld_below _ _ _)
theorem pu_ok (s : ByteArray) (hl : s.size ≤ 281474976710656) (u : Nat) (h : Lib.parseUintB 64 s.data.toList = .ok u) : Ans Tryd.prog 43 #[.string s, .int .i64 10, .int .i64 64] fun v => v = .tuple #[.int .u64 u, .nilIface] := fun w hT =>
  (Tryd.strconv_ParseUint_10_at64_ok s (by omega) u h w).mono fun e w' ⟨e1, e2⟩ => ⟨_, e1, rfl, ext_bytes e2, tab_ext hT (ext_bytes e2)⟩
theorem at_ok (s : ByteArray) (hl : s.size ≤ 281474976710656) (v : Int) (h : Lib.atoiAll s.data.toList = .ok v) : Ans Tryd.prog 44 #[.string s] fun x => x = .tuple #[.int .i64 v, .nilIface] := fun w hT =>
  (Tryd.strconv_Atoi_ok s (by omega) v h w).mono fun e w' ⟨e1, e2⟩ => by
    have e3 : Ext M0 w w' := by
      rcases e2 with e2 | ⟨t, e2⟩
      · exact ext_bytes (s := s) (.inl e2)
      · exact ext_bytes (.inr e2)
    exact ⟨_, e1, rfl, e3, tab_ext hT e3⟩
end Go.Ab
end

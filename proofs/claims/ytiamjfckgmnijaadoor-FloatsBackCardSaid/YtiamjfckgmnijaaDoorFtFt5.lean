import Derived.Test.YtiamjfckgmnijaaDoorFtNe
import Derived.Test.YtiamjfckgmnijaaDoorFtFj3
import Derived.Lib.Walk
import Derived.BigCall
import Derived.BigGuard
set_option linter.all false
section
namespace Go.Ab
open Go Go.Proofs Go.RowKit Go.Sort Go.Lib
set_option maxRecDepth 100000
set_option maxHeartbeats 6400000
theorem tab_ext {w w' : World} (h : TabOK w M0) (k : Ext M0 w w') : TabOK w' M0 := h.move k.size (fun b hb hn => k.block b hb hn) (fun _ _ h => h)
theorem spec_c {P : Program} {f : FuncId} {xs : List AV} {v : Value} {vs : List Value} {w : World} (sp : Spec P f xs (.sc v)) (hT : TabOK w M0) (hr : RepL w μ0 M0 xs vs) : Calls P f vs.toArray w (fun e w' => e = .returned v ∧ Ext M0 w w' ∧ TabOK w' M0) :=
  (sp.calls M0 w vs (fun _ h => h.elim) hT hr).mono fun e w' he => by
    cases e with
    | panicked _ => exact he.elim
    | outgrown => exact he.elim
    | returned u =>
      obtain ⟨h1, h2⟩ := he
      simp only [Rep] at h1
      subst h1
      exact ⟨rfl, h2, tab_ext hT h2⟩
theorem ext_t {a b c : World} (h : Ext M0 a b) (k : Ext M0 b c) : Ext M0 a c := h.trans k fun _ _ h => h
abbrev Ans (P : Program) (f : FuncId) (args : Array Value) (R : Value → Prop) : Prop := ∀ w, TabOK w M0 → Calls P f args w (fun e w' => ∃ v, e = .returned v ∧ R v ∧ Ext M0 w w' ∧ TabOK w' M0)
def Bad (v : Value) : Prop := ∃ t p, v = .iface t p
theorem read_no (s a b : ByteArray) (n1 : (s.toList == [110, 97, 110]) = false) (n2 : (s.toList == [43, 105, 110, 102]) = false) (n3 : (s.toList == [45, 105, 110, 102]) = false) (ok : Bool) (hc : Ans Tryd.prog 42 #[.string s, .string ⟨#[112]⟩] fun v => v = .tuple #[.string a, .string b, .bool ok]) (hz : a.size < 9223372036854775807 ∧ b.size < 9223372036854775807) (hb : ok = false ∨ a.size < 2 ∨ 18 < a.size ∨ 5 < b.size) (w : World) (hT : TabOK w M0) :
    Calls Tryd.prog 22 #[.string s] w (fun e w' => e = .returned (.tuple #[.float .f64 0, .int .i64 31]) ∧ Ext M0 w w') := by
  rcases hb with rfl | hb | hb | hb
  all_goals
    go_enter Tryd.func22, Tryd.ntmps22
    go_wp2_with (first
      | (go_at_call 42; refine (hc _ hT).mono ?_; rintro e w1 ⟨v, rfl, rfl, hE, hT1⟩))
  all_goals first
    | (go_ret2; exact ⟨rfl, hE⟩)
    | (exfalso; omega)
    | (rename_i h; rw [n1] at h; cases h; done)
    | (rename_i h; rw [n2] at h; cases h; done)
    | (rename_i h; rw [n3] at h; cases h; done)
theorem read_bad (s a b : ByteArray) (n1 : (s.toList == [110, 97, 110]) = false) (n2 : (s.toList == [43, 105, 110, 102]) = false) (n3 : (s.toList == [45, 105, 110, 102]) = false) (hc : Ans Tryd.prog 42 #[.string s, .string ⟨#[112]⟩] fun v => v = .tuple #[.string a, .string b, .bool true]) (ha : 2 ≤ a.size ∧ a.size ≤ 18) (hb : b.size ≤ 5) (er1 er2 : Value → Prop)
    (hp : Ans Tryd.prog 43 #[.string (a.extract 1 a.size), .int .i64 10, .int .i64 64] fun v => ∃ u e, v = .tuple #[.int .u64 u, e] ∧ er1 e) (hq : Ans Tryd.prog 44 #[.string b] fun v => ∃ u e, v = .tuple #[.int .i64 u, e] ∧ er2 e)
    (h : (er1 = Bad ∧ (er2 = Bad ∨ er2 = (· = .nilIface))) ∨ (er1 = (· = .nilIface) ∧ er2 = Bad)) (w : World) (hT : TabOK w M0) :
    Calls Tryd.prog 22 #[.string s] w (fun e w' => e = .returned (.tuple #[.float .f64 0, .int .i64 31]) ∧ Ext M0 w w') := by
  rcases h with ⟨rfl, rfl | rfl⟩ | ⟨rfl, rfl⟩
  · go_enter Tryd.func22, Tryd.ntmps22
    go_wp2_with (first
      | (go_at_call 42; refine (hc _ hT).mono ?_; rintro e w1 ⟨v, rfl, rfl, hE, hT1⟩)
      | (go_at_call 43; refine (hp _ hT1).mono ?_; rintro e w2 ⟨v, rfl, ⟨u, _, rfl, ⟨t, p, rfl⟩⟩, hE2, hT2⟩)
      | (go_at_call 44; refine (hq _ hT2).mono ?_; rintro e w3 ⟨v, rfl, ⟨u2, _, rfl, ⟨t2, p2, rfl⟩⟩, hE3, hT3⟩))
    all_goals first
      | (go_ret2; exact ⟨rfl, ext_t hE (ext_t hE2 hE3)⟩)
      | (exfalso; omega)
      | (rename_i h; rw [n1] at h; cases h; done)
      | (rename_i h; rw [n2] at h; cases h; done)
      | (rename_i h; rw [n3] at h; cases h; done)
  · go_enter Tryd.func22, Tryd.ntmps22
    go_wp2_with (first
      | (go_at_call 42; refine (hc _ hT).mono ?_; rintro e w1 ⟨v, rfl, rfl, hE, hT1⟩)
      | (go_at_call 43; refine (hp _ hT1).mono ?_; rintro e w2 ⟨v, rfl, ⟨u, _, rfl, ⟨t, p, rfl⟩⟩, hE2, hT2⟩)
      | (go_at_call 44; refine (hq _ hT2).mono ?_; rintro e w3 ⟨v, rfl, ⟨u2, _, rfl, rfl⟩, hE3, hT3⟩))
    all_goals first
      | (go_ret2; exact ⟨rfl, ext_t hE (ext_t hE2 hE3)⟩)
      | (exfalso; omega)
      | (rename_i h; rw [n1] at h; cases h; done)
      | (rename_i h; rw [n2] at h; cases h; done)
      | (rename_i h; rw [n3] at h; cases h; done)
  · go_enter Tryd.func22, Tryd.ntmps22
    go_wp2_with (first
      | (go_at_call 42; refine (hc _ hT).mono ?_; rintro e w1 ⟨v, rfl, rfl, hE, hT1⟩)
      | (go_at_call 43; refine (hp _ hT1).mono ?_; rintro e w2 ⟨v, rfl, ⟨u, _, rfl, rfl⟩, hE2, hT2⟩)
      | (go_at_call 44; refine (hq _ hT2).mono ?_; rintro e w3 ⟨v, rfl, ⟨u2, _, rfl, ⟨t2, p2, rfl⟩⟩, hE3, hT3⟩))
    all_goals first
      | (go_ret2; exact ⟨rfl, ext_t hE (ext_t hE2 hE3)⟩)
      | (exfalso; omega)
      | (rename_i h; rw [n1] at h; cases h; done)
      | (rename_i h; rw [n2] at h; cases h; done)
      | (rename_i h; rw [n3] at h; cases h; done)
end Go.Ab
end

import Derived.Test.YtgffficaoioljaaCh11
import Derived.Laws.RangeAny
import Derived.Laws.Closers25b
section
namespace Go.Proofs.Ytgffficaoioljaa.P
open Go.RowKit Go.Proofs.YtgffficaoioljaaW.PrintWords Go.Proofs.YtgffficaoioljaaW.PrintLast Go.Proofs.YtgffficaoioljaaW.PrintMore
set_option linter.unusedVariables false
set_option linter.unusedSimpArgs false
def setIter (W : World) (b : Nat) (s : ByteArray) (pos : Nat) : World := { W with heap := W.heap.setIfInBounds b (.stringIter s pos) }
theorem setIter_at (W : World) (b : Nat) (s : ByteArray) (pos : Nat) (h : b < W.heap.size) : (setIter W b s pos).heap[b]? = some (.stringIter s pos) := by
  simp [setIter, h]
theorem setIter_size (W : World) (b : Nat) (s : ByteArray) (pos : Nat) : (setIter W b s pos).heap.size = W.heap.size := by simp [setIter]
theorem setIter_other (W : World) (b k : Nat) (s : ByteArray) (pos : Nat) (h : k ≠ b) : (setIter W b s pos).heap[k]? = W.heap[k]? := by
  simp only [setIter]
  rw [Array.getElem?_setIfInBounds_ne (fun e => h e.symm)]
theorem setIter_grown (W : World) (b : Nat) (s : ByteArray) (pos : Nat) : W.grownBy (setIter W b s pos) (some b) :=
  ⟨rfl, rfl, rfl, by rw [setIter_size]; exact Nat.le_refl _, fun k _ hne => setIter_other W b k s pos (fun e => hne (by rw [e]))⟩
theorem setIter_below {B : Nat} {w W : World} (h : Below B w W) (b : Nat) (hb : B ≤ b) (s : ByteArray) (pos : Nat) : Below B w (setIter W b s pos) :=
  h.trans ⟨rfl, rfl, rfl, by rw [setIter_size]; exact Nat.le_refl _, fun k hk => setIter_other W b k s pos (by omega)⟩
theorem run_next_in {P : Program} (W : World) (b : Nat) (s : ByteArray) (pos : Nat) (ty : TypeId) (hb : W.heap[b]? = some (.stringIter s pos)) (h : pos < s.size) :
    (Instr.next (.pointer (some ⟨b, 0, none⟩)) true ty).run P W = .ok (.tuple #[.bool true, .int .i64 pos, .int .i32 (Utf8.decode s pos).1]) (setIter W b s (pos + (Utf8.decode s pos).2)) := by
  simp only [Instr.next, getObj, setObj, Sem.run_bind, Sem.run, hb, Result.andThen, h, if_true]
  simp [goInt, setIter, Sem.run, hb]
theorem run_next_out {P : Program} (W : World) (b : Nat) (s : ByteArray) (pos : Nat) (ty : TypeId) (hb : W.heap[b]? = some (.stringIter s pos)) (h : ¬ pos < s.size) :
    (Instr.next (.pointer (some ⟨b, 0, none⟩)) true ty).run P W = .ok (.tuple #[.bool false]) W := by
  simp [Instr.next, getObj, Sem.run, hb, h]
def limb_Read.l0 : Nat → ByteArray → Nat → List Int → Bool → Option (List Int × Int)
  | 0, _, _, _, _ => none
  | k + 1, s, pos, X, bg => if pos < s.size then (if 48 ≤ bt s pos ∧ bt s pos ≤ 57 then (if bg = true then limb_Read.l0 k s (pos + 1) X true else (nats_Push.f k X (bt s pos - 48)).bind fun Y => limb_Read.l0 k s (pos + 1) Y (decide ((Y.length : Int) > 16))) else some ([], 12)) else (if bg = true then some ([], 4) else some (X, 0))
def limb_Read.f (k : Nat) (s : ByteArray) : Option (List Int × Int) := if (s.size : Int) > 4096 then some ([], 3) else if s.size = 0 then some ([], 12) else limb_Read.l0 k s 0 [] false
theorem limb_Read.mono_l : ∀ k s pos X bg, LeO (limb_Read.l0 k s pos X bg) (limb_Read.l0 (k + 1) s pos X bg)
  | 0, _, _, _, _ => fun r h => by simp [limb_Read.l0] at h
  | k + 1, s, pos, X, bg => by
    unfold limb_Read.l0
    exact LeO.ite (LeO.ite (LeO.ite (limb_Read.mono_l k _ _ _ _) (LeO.bind (nats_Push.mono _ _ _) (fun _ => limb_Read.mono_l k _ _ _ _))) (LeO.refl _)) (LeO.refl _)
theorem limb_Read.mono : ∀ a0 k, LeO (limb_Read.f k a0) (limb_Read.f (k + 1) a0) := by
  intro a0 k
  unfold limb_Read.f
  exact LeO.ite (LeO.refl _) (LeO.ite (LeO.refl _) (limb_Read.mono_l k _ _ _ _))
theorem empty_of_size {s : ByteArray} (h : s.size = 0) : s = ByteArray.empty := by
  cases s with
  | mk d =>
    have : d = #[] := Array.eq_empty_of_size_eq_zero h
    subst this
    rfl
theorem decode_digit (s : ByteArray) (pos : Nat) (h : pos < s.size) (hd : 48 ≤ bt s pos ∧ bt s pos ≤ 57) : Utf8.decode s pos = ((bt s pos).toNat, 1) := by
  have e : bt s pos = ((s[pos]'h).toNat : Int) := by simp [bt, h]
  have := decode_ascii s pos h (by omega)
  rw [this, e]; simp
theorem decode_other (s : ByteArray) (pos : Nat) (h : pos < s.size) (hd : ¬ (48 ≤ bt s pos ∧ bt s pos ≤ 57)) : ((Utf8.decode s pos).1 : Int) < 48 ∨ 57 < ((Utf8.decode s pos).1 : Int) := by
  have e : bt s pos = ((s[pos]'h).toNat : Int) := by simp [bt, h]
  by_cases ha : (s[pos]'h).toNat < 128
  · rw [decode_ascii s pos h ha]
    simp only
    omega
  · have := (decode_high s pos h (by omega)).1
    omega
set_option maxHeartbeats 4000000 in
set_option maxRecDepth 100000 in
theorem limb_Read.calls (k : Nat) (a0 : ByteArray) (r1 : List Int) (r2 : Int) (w : World) (h : limb_Read.f k a0 = some (r1, r2)) :
    Calls Try.prog 31 #[.string a0] w fun e w' => ∃ v0_ : Value, e = .returned (.tuple #[v0_, .int .i64 r2]) ∧ Kd.R (Kd.int .u32) 47 w' w.heap.size (fun _ => True) v0_ r1 ∧ Below w.heap.size w w' := by
  unfold limb_Read.f at h
  by_cases c1 : (a0.size : Int) > 4096
  · rw [if_pos c1] at h
    simp only [Option.some.injEq, Prod.mk.injEq] at h
    obtain ⟨rfl, rfl⟩ := h
    have c1a : decide (4096 < (a0.size : Int)) = true := decide_eq_true c1
    have c1b : decide (4096 < a0.size) = true := decide_eq_true (by omega)
    clear c1
    go_enter Try.func31, Try.ntmps31
    go_wp2
    go_ret2
    exact ⟨_, rfl, Kd.R_nil _ _ _ _ _, Below.refl _ _⟩
  · rw [if_neg c1] at h
    have c1a : decide (4096 < (a0.size : Int)) = false := decide_eq_false c1
    have c1b : decide (4096 < a0.size) = false := decide_eq_false (by omega)
    have hsz : a0.size ≤ 4096 := by omega
    clear c1
    by_cases c2 : a0.size = 0
    · rw [if_pos c2] at h
      simp only [Option.some.injEq, Prod.mk.injEq] at h
      obtain ⟨rfl, rfl⟩ := h
      have he : a0.toList = [] := (toList_nil_iff_emptyBytes a0).2 (empty_of_size c2)
      have he2 : (!a0.toList.isEmpty) = false := by rw [he]; rfl
      have he3 : a0.toList.isEmpty = true := by rw [he]; rfl
      clear hsz c2
      go_enter Try.func31, Try.ntmps31
      go_wp2
      go_ret2
      exact ⟨_, rfl, Kd.R_nil _ _ _ _ _, Below.refl _ _⟩
    · rw [if_neg c2] at h
      have hne : a0.toList ≠ [] := fun he => c2 (by rw [(toList_nil_iff_emptyBytes a0).1 he]; rfl)
      have he2 : (!a0.toList.isEmpty) = true := by
        cases hl : a0.toList with
        | nil => exact absurd hl hne
        | cons a b => rfl
      have he3 : a0.toList.isEmpty = false := by
        cases hl : a0.toList with
        | nil => exact absurd hl hne
        | cons a b => rfl
      have H := Aside0.mk h
      clear h c2
      go_enter Try.func31, Try.ntmps31
      go_wp2
      go_loopg [4, 5] k (fun kq v4 v5 w' => ∃ (X : List Int) (bg : Bool) (pos : Nat), v5 = .bool bg ∧ Aside0 (limb_Read.l0 kq a0 pos X bg = some (r1, r2)) ∧ Aside0 (kq ≤ k) ∧ Aside0 (w'.heap[w.heap.size]? = some (.stringIter a0 pos)) ∧ Aside0 (Kd.R (Kd.int .u32) 47 w' w.heap.size (fun k_ => k_ ≠ w.heap.size) v4 X) ∧ Aside0 (Below w.heap.size w w'))
      case atStart => exact ⟨[], false, 0, rfl, H, ⟨Nat.le_refl _⟩, ⟨World.iter_heap w a0 0⟩, ⟨Kd.R_nil _ _ _ _ _⟩, ⟨below_alloc (Below.refl _ _) _⟩⟩
      case round =>
        clear H
        obtain ⟨X, bg, pos, rfl, HA, HK1, HI, HO, HB⟩ := hrel
        cases gk with
        | zero => exact absurd HA.out (by simp [limb_Read.l0])
        | succ k1 =>
          have H := HA.out
          clear HA
          simp only [limb_Read.l0] at H
          have hlt : w.heap.size < wr.heap.size := (Array.getElem?_eq_some_iff.1 HI.out).1
          have HL := Aside0.mk hlt
          clear hlt
          by_cases c3 : pos < a0.size
          · rw [if_pos c3] at H
            have hnx : ∀ ty, (Instr.next (.pointer (some ⟨w.heap.size, 0, none⟩)) true ty).run Try.prog wr = _ := fun ty => run_next_in wr w.heap.size a0 pos ty HI.out c3
            by_cases c4 : 48 ≤ bt a0 pos ∧ bt a0 pos ≤ 57
            · rw [if_pos c4] at H
              have hcast : (((bt a0 pos).toNat : Nat) : Int) = bt a0 pos := by omega
              rw [decode_digit a0 pos c3 c4] at hnx
              simp only [hcast] at hnx
              clear hcast
              have HI2 := Aside0.mk (setIter_at wr w.heap.size a0 (pos + 1) HL.out)
              have HO2 := Aside0.mk (Kd.R_grown HO.out (setIter_grown wr w.heap.size a0 (pos + 1)) (fun k_ hk e_ => hk (by injection e_)))
              have HB2 := Aside0.mk (setIter_below HB.out w.heap.size (Nat.le_refl _) a0 (pos + 1))
              have HL2 := Aside0.mk (show w.heap.size < (setIter wr w.heap.size a0 (pos + 1)).heap.size by rw [setIter_size]; exact HL.out)
              have hrun : ∀ ty, (Instr.next (.pointer (some ⟨w.heap.size, 0, none⟩)) true ty).run Try.prog wr = .ok (.tuple #[.bool true, .int .i64 pos, .int .i32 (bt a0 pos)]) (setIter wr w.heap.size a0 (pos + 1)) := hnx
              clear hnx HI HO HB HL c3
              generalize bt a0 pos = b at *
              generalize setIter wr w.heap.size a0 (pos + 1) = w2 at *
              have c5 : decide (b < 48) = false := decide_eq_false (by omega)
              have c6 : decide (57 < b) = false := decide_eq_false (by omega)
              have c7 : 48 ≤ b := c4.1
              have c8 : b ≤ 57 := c4.2
              clear c4
              cases bg with
              | true =>
                rw [if_pos rfl] at H
                have HA := Aside0.mk H
                clear H
                go_wp2
                go_roundg k1
                case measure => have := HK1.out; omega
                case rel => exact ⟨X, true, pos + 1, rfl, HA, ⟨by have := HK1.out; omega⟩, HI2, HO2, HB2⟩
              | false =>
                rw [if_neg (by decide)] at H
                obtain ⟨Y, hY, H⟩ := Option.bind_eq_some_iff.mp H
                have HA := Aside0.mk H
                have HY := Aside0.mk hY
                clear H hY
                go_wp2_with fail
                refine (nats_Push.calls k1 (fun k_ => some k_ = u4.ownBlock) u4 X (b - 48) Y w w2 HB2.out (Kd.R_tight rfl HO2.out) HY.out).mono ?_
                rintro e w3 ⟨v1, rfl, ho, hb, hkp⟩
                have HI3 := Aside0.mk ((hkp.2 w.heap.size HL2.out (fun he => HO2.out.1 _ he.symm rfl)).trans HI2.out)
                have HO3 := Aside0.mk (Kd.R_mono (ok' := fun k_ => k_ ≠ w.heap.size) ho (fun k_ hk => Or.elim hk (fun he => HO2.out.1 k_ he.symm) (fun hn => by have := HL2.out; omega)))
                have HB3 := Aside0.mk hb
                clear ho hb hkp HI2 HO2 HB2
                obtain ⟨Ao, co, eo⟩ := Kd.R_slice HO3.out
                subst eo
                go_wp2
                go_roundg k1
                case measure => have := HK1.out; omega
                case rel => exact ⟨Y, _, pos + 1, rfl, HA, ⟨by have := HK1.out; omega⟩, HI3, HO3, HB3⟩
            · rw [if_neg c4] at H
              simp only [Option.some.injEq, Prod.mk.injEq] at H
              obtain ⟨rfl, rfl⟩ := H
              have hd := decode_other a0 pos c3 c4
              have hle : ((Utf8.decode a0 pos).1 : Int) ≤ 2147483647 := by have := decode_le a0 pos; omega
              have HB2 := Aside0.mk (setIter_below HB.out w.heap.size (Nat.le_refl _) a0 (pos + (Utf8.decode a0 pos).2))
              clear c3 c4
              generalize setIter wr w.heap.size a0 (pos + (Utf8.decode a0 pos).2) = w2 at *
              generalize (((Utf8.decode a0 pos).1 : Nat) : Int) = b at *
              by_cases c5 : b < 48
              · have c5b : decide (b < 48) = true := decide_eq_true c5
                clear c5 hd
                go_wp2
                go_ret2
                exact ⟨_, rfl, Kd.R_nil _ _ _ _ _, HB2.out⟩
              · have c5b : decide (b < 48) = false := decide_eq_false c5
                have c6b : decide (57 < b) = true := decide_eq_true (by omega)
                clear c5 hd
                go_wp2
                go_ret2
                exact ⟨_, rfl, Kd.R_nil _ _ _ _ _, HB2.out⟩
          · rw [if_neg c3] at H
            have hnx : ∀ ty, (Instr.next (.pointer (some ⟨w.heap.size, 0, none⟩)) true ty).run Try.prog wr = _ := fun ty => run_next_out wr w.heap.size a0 pos ty HI.out c3
            clear c3
            cases bg with
            | true =>
              rw [if_pos rfl] at H
              simp only [Option.some.injEq, Prod.mk.injEq] at H
              obtain ⟨rfl, rfl⟩ := H
              go_wp2
              go_ret2
              exact ⟨_, rfl, Kd.R_nil _ _ _ _ _, HB.out⟩
            | false =>
              rw [if_neg (by decide)] at H
              simp only [Option.some.injEq, Prod.mk.injEq] at H
              obtain ⟨rfl, rfl⟩ := H
              go_wp2
              go_ret2
              exact ⟨_, rfl, Kd.R_mono HO.out (fun _ _ => trivial), HB.out⟩
end Go.Proofs.Ytgffficaoioljaa.P
end

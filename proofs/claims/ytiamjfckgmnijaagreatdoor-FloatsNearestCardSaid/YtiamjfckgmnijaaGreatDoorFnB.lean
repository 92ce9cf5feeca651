import Derived.Calls
import Derived.Orders
import Derived.Laws.Entries
import Derived.Laws.Append
import Derived.Laws.IdiomCopy
import Derived.Laws.Slices
import Derived.Laws.Strings
import Derived.Laws.MakeOwn
import Derived.Deep.LoopGhost
import Derived.Deep.MidRow
set_option linter.all false
section
namespace Go.Ab
open Go
inductive Loc where
  | t (i : Nat)
  | h (k : Nat)
  deriving DecidableEq
inductive AV where
  | sc (v : Value)
  | vs (n : Nat) (xs : List AV)
  | hs (k g off n z : Nat)
  | hp (k g off : Nat)
  | vp (xs : List AV)
  | agg (cs : List AV)
  | tup (cs : List AV)
  | blk (g st : Nat) (cs : List AV)
  deriving Inhabited
def oneV : Value → Bool
  | .agg _ | .tuple _ => false
  | _ => true
def AV.one : AV → Bool
  | .sc v => oneV v
  | .agg _ | .tup _ | .blk .. => false
  | _ => true
def AV.fz : AV → Bool
  | .sc v => oneV v
  | .vs .. => true
  | _ => false
theorem AV.one_of_fz {x : AV} (h : x.fz = true) : x.one = true := by cases x <;> simp_all [AV.fz, AV.one]
abbrev Mu := Nat → Nat → Option (Nat × Nat × Nat)
mutual
def Rep (w : World) (μ : Mu) (M : Nat → Prop) : AV → Value → Prop
  | .sc u, v => v = u
  | .vs n xs, v => ∃ a c, v = .slice a n c ∧ n ≤ c ∧ (xs = [] ∨ ∃ b o, a = some ⟨b, o, none⟩ ∧ ¬ M b ∧ Row w μ M b o xs)
  | .hs k g off n z, v => ∃ c L A cap, μ k g = some (c, L, A) ∧ v = .slice (some ⟨c, off, none⟩) n cap ∧ n ≤ cap ∧ off + n * z ≤ L ∧ L ≤ off + cap * z ∧ off + cap * z ≤ A
  | .hp k g off, v => ∃ c L A, μ k g = some (c, L, A) ∧ v = .pointer (some ⟨c, off, none⟩)
  | .vp xs, v => ∃ b o, v = .pointer (some ⟨b, o, none⟩) ∧ b < w.heap.size ∧ ¬ M b ∧ Row w μ M b o xs
  | .agg cs, v => ∃ vs, v = .agg vs ∧ RepL w μ M cs vs.toList
  | .tup cs, v => ∃ vs, v = .tuple vs ∧ RepL w μ M cs vs.toList
  | .blk .., _ => False
def RepL (w : World) (μ : Mu) (M : Nat → Prop) : List AV → List Value → Prop
  | [], [] => True
  | x :: xs, v :: vs => Rep w μ M x v ∧ RepL w μ M xs vs
  | _, _ => False
def Row (w : World) (μ : Mu) (M : Nat → Prop) (b : Nat) : Nat → List AV → Prop
  | _, [] => True
  | o, x :: xs => (x.fz = true ∧ ∃ v, w.cell? ⟨b, o, none⟩ = some v ∧ Rep w μ M x v) ∧ Row w μ M b (o + 1) xs
end
structure Ext (M : Nat → Prop) (w w' : World) : Prop where
  os : w'.os = w.os
  tape : w'.tape = w.tape
  output : w'.output = w.output
  size : w.heap.size ≤ w'.heap.size
  block : ∀ b, b < w.heap.size → ¬ M b → w'.heap[b]? = w.heap[b]?
def MuLe (μ μ' : Mu) : Prop := ∀ k g c, μ k g = some c → μ' k g = some c
theorem Ext.refl (M : Nat → Prop) (w : World) : Ext M w w := ⟨rfl, rfl, rfl, Nat.le_refl _, fun _ _ _ => rfl⟩
theorem Ext.trans {M M' : Nat → Prop} {a b c : World} (h : Ext M a b) (k : Ext M' b c) (hM : ∀ x, x < a.heap.size → M' x → M x) : Ext M a c :=
  ⟨k.os.trans h.os, k.tape.trans h.tape, k.output.trans h.output, Nat.le_trans h.size k.size,
   fun i hi hm => (k.block i (Nat.lt_of_lt_of_le hi h.size) (fun hh => hm (hM i hi hh))).trans (h.block i hi hm)⟩
theorem Ext.weaken {M M' : Nat → Prop} {a b : World} (h : Ext M a b) (hM : ∀ x, x < a.heap.size → M x → M' x) : Ext M' a b :=
  ⟨h.os, h.tape, h.output, h.size, fun i hi hm => h.block i hi fun hh => hm (hM i hi hh)⟩
theorem cell_lt {w : World} {b o : Nat} {v : Value} (h : w.cell? ⟨b, o, none⟩ = some v) : b < w.heap.size := by
  unfold World.cell? at h
  cases hb : w.heap[b]? with
  | none => rw [hb] at h; simp at h
  | some x => exact (Array.getElem?_eq_some_iff.1 hb).1
theorem cell_same {w w' : World} {b o : Nat} (h : w'.heap[b]? = w.heap[b]?) : w'.cell? ⟨b, o, none⟩ = w.cell? ⟨b, o, none⟩ := by
  simp [World.cell?, h]
structure Up (w : World) (μ : Mu) (M : Nat → Prop) (w' : World) (μ' : Mu) (M' : Nat → Prop) : Prop where
  size : w.heap.size ≤ w'.heap.size
  block : ∀ b, b < w.heap.size → ¬ M b → w'.heap[b]? = w.heap[b]?
  mu : MuLe μ μ'
  mt : ∀ b, b < w.heap.size → M' b → M b
section
variable {w w' : World} {μ μ' : Mu} {M M' : Nat → Prop}
mutual
theorem Rep.mono (u : Up w μ M w' μ' M') : ∀ (x : AV) (v : Value), Rep w μ M x v → Rep w' μ' M' x v
  | .sc u, v, h => by simpa [Rep] using h
  | .vs n xs, v, h => by
    simp only [Rep] at h ⊢
    obtain ⟨a, c, h1, h2, h3⟩ := h
    refine ⟨a, c, h1, h2, ?_⟩
    cases xs with
    | nil => exact .inl rfl
    | cons x xs =>
      rcases h3 with h3 | ⟨b, o, h4, h5, h6⟩
      · cases h3
      · have hb : b < w.heap.size := by
          simp only [Row] at h6
          obtain ⟨⟨_, v, hv, _⟩, _⟩ := h6
          exact cell_lt hv
        exact .inr ⟨b, o, h4, fun hh => h5 (u.mt b hb hh), Row.mono u b h5 (x :: xs) o h6⟩
  | .hs k g off n z, v, h => by
    simp only [Rep] at h ⊢
    obtain ⟨c, L, A, cap, h1, h2⟩ := h
    exact ⟨c, L, A, cap, u.mu _ _ _ h1, h2⟩
  | .hp k g off, v, h => by
    simp only [Rep] at h ⊢
    obtain ⟨c, L, A, h1, h2⟩ := h
    exact ⟨c, L, A, u.mu _ _ _ h1, h2⟩
  | .vp xs, v, h => by
    simp only [Rep] at h ⊢
    obtain ⟨b, o, h4, hb, h5, h6⟩ := h
    exact ⟨b, o, h4, Nat.lt_of_lt_of_le hb u.size, fun hh => h5 (u.mt b hb hh), Row.mono u b h5 xs o h6⟩
  | .agg cs, v, h => by
    simp only [Rep] at h ⊢
    obtain ⟨vs, h1, h2⟩ := h
    exact ⟨vs, h1, RepL.mono u cs vs.toList h2⟩
  | .tup cs, v, h => by
    simp only [Rep] at h ⊢
    obtain ⟨vs, h1, h2⟩ := h
    exact ⟨vs, h1, RepL.mono u cs vs.toList h2⟩
  | .blk .., v, h => by simp [Rep] at h
theorem RepL.mono (u : Up w μ M w' μ' M') : ∀ (xs : List AV) (vs : List Value), RepL w μ M xs vs → RepL w' μ' M' xs vs
  | [], [], _ => by simp [RepL]
  | x :: xs, v :: vs, h => by
    simp only [RepL] at h ⊢
    exact ⟨Rep.mono u x v h.1, RepL.mono u xs vs h.2⟩
  | [], _ :: _, h => by simp [RepL] at h
  | _ :: _, [], h => by simp [RepL] at h
theorem Row.mono (u : Up w μ M w' μ' M') (b : Nat) (hb : ¬ M b) : ∀ (xs : List AV) (o : Nat), Row w μ M b o xs → Row w' μ' M' b o xs
  | [], o, _ => by simp [Row]
  | x :: xs, o, h => by
    simp only [Row] at h ⊢
    obtain ⟨⟨h1, v, h2, h3⟩, h4⟩ := h
    refine ⟨⟨h1, v, ?_, Rep.mono u x v h3⟩, Row.mono u b hb xs (o + 1) h4⟩
    rw [cell_same (u.block b (cell_lt h2) hb)]
    exact h2
end
theorem RepL.length : ∀ {xs : List AV} {vs : List Value}, RepL w μ M xs vs → xs.length = vs.length
  | [], [], _ => rfl
  | x :: xs, v :: vs, h => by
    simp only [RepL] at h
    simp [RepL.length h.2]
  | [], _ :: _, h => by simp [RepL] at h
  | _ :: _, [], h => by simp [RepL] at h
theorem RepL.get : ∀ {xs : List AV} {vs : List Value}, RepL w μ M xs vs → ∀ (i : Nat) (x : AV), xs[i]? = some x → ∃ v, vs[i]? = some v ∧ Rep w μ M x v
  | [], [], _ => by simp
  | x :: xs, v :: vs, h => by
    simp only [RepL] at h
    intro i y hy
    cases i with
    | zero => simp at hy; subst hy; exact ⟨v, by simp, h.1⟩
    | succ i => simp at hy; simpa using RepL.get h.2 i y hy
  | [], _ :: _, h => by simp [RepL] at h
  | _ :: _, [], h => by simp [RepL] at h
theorem RepL.of_get : ∀ {xs : List AV} {vs : List Value}, xs.length = vs.length → (∀ (i : Nat) (x : AV) (v : Value), xs[i]? = some x → vs[i]? = some v → Rep w μ M x v) → RepL w μ M xs vs
  | [], [], _, _ => by simp [RepL]
  | x :: xs, v :: vs, hl, h => by
    simp only [RepL]
    exact ⟨h 0 x v (by simp) (by simp), RepL.of_get (by simpa using hl) fun i y u hy hu => h (i + 1) y u (by simpa using hy) (by simpa using hu)⟩
  | [], _ :: _, h, _ => by simp at h
  | _ :: _, [], h, _ => by simp at h
theorem Row.get {b : Nat} : ∀ {xs : List AV} {o : Nat}, Row w μ M b o xs → ∀ (i : Nat) (x : AV), xs[i]? = some x → x.fz = true ∧ ∃ v, w.cell? ⟨b, o + i, none⟩ = some v ∧ Rep w μ M x v
  | [], _, _ => by simp
  | x :: xs, o, h => by
    simp only [Row] at h
    intro i y hy
    cases i with
    | zero => simp at hy; subst hy; exact h.1
    | succ i =>
      simp at hy
      have := Row.get h.2 i y hy
      rwa [show o + 1 + i = o + (i + 1) by omega] at this
theorem Row.of_get {b : Nat} : ∀ {xs : List AV} {o : Nat}, (∀ (i : Nat) (x : AV), xs[i]? = some x → x.fz = true ∧ ∃ v, w.cell? ⟨b, o + i, none⟩ = some v ∧ Rep w μ M x v) → Row w μ M b o xs
  | [], _, _ => by simp [Row]
  | x :: xs, o, h => by
    simp only [Row]
    refine ⟨h 0 x (by simp), Row.of_get fun i y hy => ?_⟩
    have := h (i + 1) y (by simpa using hy)
    rwa [show o + (i + 1) = o + 1 + i by omega] at this
theorem Row.drop {b : Nat} {xs : List AV} {o : Nat} (h : Row w μ M b o xs) (j : Nat) : Row w μ M b (o + j) (xs.drop j) :=
  Row.of_get fun i x hx => by
    rw [List.getElem?_drop] at hx
    have := Row.get h (j + i) x hx
    rwa [show o + (j + i) = o + j + i by omega] at this
theorem Row.take {b : Nat} {xs : List AV} {o : Nat} (h : Row w μ M b o xs) (j : Nat) : Row w μ M b o (xs.take j) :=
  Row.of_get fun i x hx => by
    rw [List.getElem?_take] at hx
    split at hx
    · exact Row.get h i x hx
    · cases hx
theorem Rep.one {x : AV} {v : Value} (h : Rep w μ M x v) (hx : x.one = true) : oneV v = true := by
  cases x <;> simp only [Rep, AV.one] at h hx
  · subst h; exact hx
  · obtain ⟨_, _, rfl, _⟩ := h; rfl
  · obtain ⟨_, _, _, _, _, rfl, _⟩ := h; rfl
  · obtain ⟨_, _, _, _, rfl⟩ := h; rfl
  · obtain ⟨_, _, rfl, _⟩ := h; rfl
  · cases hx
  · cases hx
theorem Up.refl (w : World) (μ : Mu) (M : Nat → Prop) : Up w μ M w μ M := ⟨Nat.le_refl _, fun _ _ _ => rfl, fun _ _ _ h => h, fun _ _ h => h⟩
end
abbrev S := Loc → AV
def upd (s : S) (l : Loc) (v : AV) : S := fun l' => if l' = l then v else s l'
theorem upd_same (s : S) (l : Loc) (v : AV) : upd s l v l = v := by simp [upd]
theorem upd_other (s : S) {l l' : Loc} (v : AV) (h : l' ≠ l) : upd s l v l' = s l' := by simp [upd, h]
def Wof (s : S) (μ : Mu) (c : Nat) : Prop := ∃ k g cs L A, s (.h k) = .blk g 2 cs ∧ μ k g = some (c, L, A)
def Mof (F : Nat → Prop) (s : S) (μ : Mu) (c : Nat) : Prop := F c ∨ Wof s μ c
structure Hp (F : Nat → Prop) (s : S) (μ : Mu) (w : World) : Prop where
  row : ∀ k g st cs, s (.h k) = .blk g st cs → st ≠ 0 → ∃ c A arr e f, μ k g = some (c, cs.length, A) ∧ w.heap[c]? = some (.cells arr e f) ∧ arr.size = A ∧ cs.length ≤ A ∧
    (∀ o, o < A → ¬ (f.1 ≤ o ∧ o < f.2)) ∧ ∀ (i : Nat) (x : AV), cs[i]? = some x → x.one = true ∧ ∃ v, arr[i]? = some v ∧ Rep w μ (Mof F s μ) x v
  inj : ∀ k g st cs k' g' st' cs' c L A L' A', s (.h k) = .blk g st cs → st ≠ 0 → s (.h k') = .blk g' st' cs' → st' ≠ 0 → μ k g = some (c, L, A) → μ k' g' = some (c, L', A') → k = k'
  old : ∀ k g c L A, μ k g = some (c, L, A) → c < w.heap.size ∧ ¬ F c
  gen : ∀ k g st cs, s (.h k) = .blk g st cs → ∀ g', g < g' → μ k g' = none
  isb : ∀ k, ∃ g st cs, s (.h k) = .blk g st cs
  fb : ∀ c, F c → c < w.heap.size
def tabs : List (Nat × List Value) := [(1, [.int .u8 0, .int .u8 1, .int .u8 56, .int .u8 2, .int .u8 57, .int .u8 49, .int .u8 28, .int .u8 3, .int .u8 61, .int .u8 58, .int .u8 42, .int .u8 50, .int .u8 38, .int .u8 29, .int .u8 17, .int .u8 4, .int .u8 62, .int .u8 47, .int .u8 59, .int .u8 36, .int .u8 45, .int .u8 43, .int .u8 51, .int .u8 22, .int .u8 53, .int .u8 39, .int .u8 33, .int .u8 30, .int .u8 24, .int .u8 18, .int .u8 12, .int .u8 5, .int .u8 63, .int .u8 55, .int .u8 48, .int .u8 27, .int .u8 60, .int .u8 41, .int .u8 37, .int .u8 16, .int .u8 46, .int .u8 35, .int .u8 44, .int .u8 21, .int .u8 52, .int .u8 32, .int .u8 23, .int .u8 11, .int .u8 54, .int .u8 26, .int .u8 40, .int .u8 15, .int .u8 34, .int .u8 20, .int .u8 31, .int .u8 10, .int .u8 25, .int .u8 14, .int .u8 19, .int .u8 9, .int .u8 13, .int .u8 8, .int .u8 7, .int .u8 6]), (5, [.int .u64 1, .int .u64 10, .int .u64 100, .int .u64 1000, .int .u64 10000, .int .u64 100000, .int .u64 1000000, .int .u64 10000000, .int .u64 100000000, .int .u64 1000000000, .int .u64 10000000000, .int .u64 100000000000, .int .u64 1000000000000, .int .u64 10000000000000, .int .u64 100000000000000, .int .u64 1000000000000000, .int .u64 10000000000000000, .int .u64 100000000000000000, .int .u64 1000000000000000000, .int .u64 10000000000000000000]), (6, [.int .u8 0, .int .u8 1, .int .u8 28, .int .u8 2, .int .u8 29, .int .u8 14, .int .u8 24, .int .u8 3, .int .u8 30, .int .u8 22, .int .u8 20, .int .u8 15, .int .u8 25, .int .u8 17, .int .u8 4, .int .u8 8, .int .u8 31, .int .u8 27, .int .u8 13, .int .u8 23, .int .u8 21, .int .u8 19, .int .u8 16, .int .u8 7, .int .u8 26, .int .u8 12, .int .u8 18, .int .u8 6, .int .u8 11, .int .u8 5, .int .u8 10, .int .u8 9])]
def errs : List Nat := [3, 4]
def TabOK (w : World) (M : Nat → Prop) : Prop :=
  (∀ t ∈ tabs, t.1 < w.heap.size ∧ ¬ M t.1 ∧ (∀ u ∈ t.2, oneV u = true) ∧ (∀ (i : Nat) (u : Value), t.2[i]? = some u → w.cell? ⟨t.1, i, none⟩ = some u) ∧ ∃ ty z, w.heap[t.1]? = some (.cells t.2.toArray ty z)) ∧
  ∀ g ∈ errs, g < w.heap.size ∧ ¬ M g ∧ ∃ te pe, w.cell? ⟨g, 0, none⟩ = some (.iface te pe)
theorem TabOK.move {w w' : World} {M M' : Nat → Prop} (h : TabOK w M) (hs : w.heap.size ≤ w'.heap.size) (hb : ∀ b, b < w.heap.size → ¬ M b → w'.heap[b]? = w.heap[b]?) (hm : ∀ b, b < w.heap.size → M' b → M b) : TabOK w' M' := by
  refine ⟨fun t ht => ?_, fun g hg => ?_⟩
  · obtain ⟨h1, h2, h3, h4, ty, z, h6⟩ := h.1 t ht
    have e := hb _ h1 h2
    refine ⟨Nat.lt_of_lt_of_le h1 hs, fun hh => h2 (hm _ h1 hh), h3, fun i u hu => ?_, ty, z, e.trans h6⟩
    have h5 := h4 i u hu
    simp only [World.cell?] at h5 ⊢
    rw [e]
    exact h5
  · obtain ⟨h1, h2, te, pe, h3⟩ := h.2 g hg
    have e := hb _ h1 h2
    refine ⟨Nat.lt_of_lt_of_le h1 hs, fun hh => h2 (hm _ h1 hh), te, pe, ?_⟩
    simp only [World.cell?] at h3 ⊢
    rw [e]
    exact h3
theorem TabOK.weaken {w : World} {M M' : Nat → Prop} (h : TabOK w M) (hm : ∀ b, M' b → M b) : TabOK w M' := h.move (Nat.le_refl _) (fun _ _ _ => rfl) (fun b _ => hm b)
structure Sim (F : Nat → Prop) (s : S) (μ : Mu) (a : Act) (w : World) : Prop where
  tm : ∀ i, Rep w μ (Mof F s μ) (s (.t i)) (a.tmps.getD i undef)
  hp : Hp F s μ w
  df : a.defers = []
  tb : TabOK w (Mof F s μ)
structure Step (s : S) (μ : Mu) (w : World) (s' : S) (μ' : Mu) (w' : World) : Prop where
  mu : MuLe μ μ'
  ext : Ext (Wof s μ) w w'
  mof : ∀ c, c < w.heap.size → Wof s' μ' c → Wof s μ c
theorem Step.up {F : Nat → Prop} {s s' : S} {μ μ' : Mu} {w w' : World} (h : Step s μ w s' μ' w') : Up w μ (Mof F s μ) w' μ' (Mof F s' μ') :=
  ⟨h.ext.size, fun b hb hn => h.ext.block b hb fun hh => hn (.inr hh), h.mu, fun b hb hh => hh.imp id (h.mof b hb)⟩
theorem TabOK.step {F : Nat → Prop} {s s' : S} {μ μ' : Mu} {w w' : World} (h : TabOK w (Mof F s μ)) (k : Step s μ w s' μ' w') : TabOK w' (Mof F s' μ') :=
  h.move k.ext.size (fun b hb hn => k.ext.block b hb fun hw => hn (.inr hw)) (fun b hb hh => hh.imp id (k.mof b hb))
theorem Step.refl (s : S) (μ : Mu) (w : World) : Step s μ w s μ w := ⟨fun _ _ _ h => h, Ext.refl _ _, fun _ _ h => h⟩
theorem Step.trans {s s' s'' : S} {μ μ' μ'' : Mu} {w w' w'' : World} (h : Step s μ w s' μ' w') (k : Step s' μ' w' s'' μ'' w'') : Step s μ w s'' μ'' w'' :=
  ⟨fun _ _ _ x => k.mu _ _ _ (h.mu _ _ _ x), h.ext.trans k.ext h.mof, fun c hc x => h.mof c hc (k.mof c (Nat.lt_of_lt_of_le hc h.ext.size) x)⟩
theorem Wof_t (s : S) (μ : Mu) (i : Nat) (v : AV) : Wof (upd s (.t i) v) μ = Wof s μ := by
  funext c; simp [Wof, upd]
theorem Mof_t (F : Nat → Prop) (s : S) (μ : Mu) (i : Nat) (v : AV) : Mof F (upd s (.t i) v) μ = Mof F s μ := by
  funext c; simp only [Mof, Wof_t]
theorem Hp_t {F : Nat → Prop} {s : S} {μ : Mu} {w : World} (h : Hp F s μ w) (i : Nat) (v : AV) : Hp F (upd s (.t i) v) μ w := by
  have e : ∀ k, upd s (.t i) v (.h k) = s (.h k) := fun k => by simp [upd]
  constructor
  · intro k g st cs hk hst
    rw [Mof_t]
    exact h.row k g st cs (by rw [← e k]; exact hk) hst
  · intro k g st cs k' g' st' cs'
    rw [e, e]
    exact h.inj k g st cs k' g' st' cs'
  · exact h.old
  · intro k g st cs hk
    exact h.gen k g st cs (by rw [← e k]; exact hk)
  · intro k
    rw [e]
    exact h.isb k
  · exact h.fb
theorem Step.t {s : S} {μ : Mu} {w : World} {s' : S} {μ' : Mu} {w' : World} (h : Step s μ w s' μ' w') (i : Nat) (v : AV) : Step s μ w (upd s' (.t i) v) μ' w' :=
  ⟨h.mu, h.ext, by rw [Wof_t]; exact h.mof⟩
def put (s : S) (d : Option Tmp) (v : AV) : S := match d with | some d => upd s (.t d) v | none => s
theorem Sim.put {F : Nat → Prop} {s s' : S} {μ μ' : Mu} {a : Act} {w w' : World} (h : Sim F s μ a w) (hst : Step s μ w s' μ' w') (ht : ∀ i, s' (.t i) = s (.t i)) (hh : Hp F s' μ' w') (d : Option Tmp) (hd : ∀ i, d = some i → i < a.tmps.size) {x : AV} {v : Value}
    (hv : Rep w' μ' (Mof F s' μ') x v) : Sim F (put s' d x) μ' (a.put d v) w' ∧ Step s μ w (put s' d x) μ' w' := by
  cases d with
  | none =>
    refine ⟨⟨fun i => ?_, hh, h.df, h.tb.step hst⟩, hst⟩
    show Rep w' μ' (Mof F s' μ') (s' (.t i)) _
    rw [ht]
    exact Rep.mono hst.up _ _ (h.tm i)
  | some d =>
    refine ⟨⟨fun i => ?_, Hp_t hh d x, h.df, h.tb.step (hst.t d x)⟩, hst.t d x⟩
    show Rep w' μ' (Mof F (upd s' (.t d) x) μ') (upd s' (.t d) x (.t i)) ((a.tmps.setIfInBounds d v).getD i undef)
    rw [Mof_t]
    by_cases e : i = d
    · subst e
      have hlt := hd i rfl
      rw [upd_same]
      simpa [Array.getD_eq_getD_getElem?, Array.getElem?_setIfInBounds, hlt] using hv
    · rw [upd_other _ _ (by simpa using e), ht]
      have : (a.tmps.setIfInBounds d v).getD i undef = a.tmps.getD i undef := by
        simp [Array.getD_eq_getD_getElem?, Ne.symm e]
      rw [this]
      exact Rep.mono hst.up _ _ (h.tm i)
theorem Hp.upd {F : Nat → Prop} {s : S} {μ : Mu} {w : World} (h : Hp F s μ w) {μ' : Mu} {w' : World} (k g st : Nat) (cs : List AV) (hk : s (.h k) = .blk g st cs) (g' st' : Nat) (cs' : List AV) (c' A' : Nat) (hgg : g ≤ g')
    (hmu : ∀ k1 g1, ¬ (k1 = k ∧ g1 = g') → μ' k1 g1 = μ k1 g1) (hnew : μ' k g' = some (c', cs'.length, A')) (hmono : g' = g → μ k g' = μ' k g')
    (hc : w.heap.size ≤ c' ∨ ∃ L A, st ≠ 0 ∧ μ k g = some (c', L, A) ∧ (st' = 2 → st = 2)) (hc' : c' < w'.heap.size)
    (hos : w'.os = w.os) (htape : w'.tape = w.tape) (hout : w'.output = w.output) (hsz : w.heap.size ≤ w'.heap.size)
    (hblk : ∀ b, b < w.heap.size → ¬ (st = 2 ∧ ∃ L A, μ k g = some (b, L, A)) → w'.heap[b]? = w.heap[b]?)
    (hrow : Up w μ (Mof F s μ) w' μ' (Mof F (Ab.upd s (.h k) (.blk g' st' cs')) μ') → st' ≠ 0 → ∃ arr e f, w'.heap[c']? = some (.cells arr e f) ∧ arr.size = A' ∧ cs'.length ≤ A' ∧
      (∀ o, o < A' → ¬ (f.1 ≤ o ∧ o < f.2)) ∧ ∀ (i : Nat) (x : AV), cs'[i]? = some x → x.one = true ∧ ∃ v, arr[i]? = some v ∧ Rep w' μ' (Mof F (Ab.upd s (.h k) (.blk g' st' cs')) μ') x v) :
    Hp F (Ab.upd s (.h k) (.blk g' st' cs')) μ' w' ∧ Step s μ w (Ab.upd s (.h k) (.blk g' st' cs')) μ' w' := by
  have ek : Ab.upd s (.h k) (.blk g' st' cs') (.h k) = .blk g' st' cs' := upd_same _ _ _
  have eo : ∀ k1, k1 ≠ k → Ab.upd s (.h k) (.blk g' st' cs') (.h k1) = s (.h k1) := fun k1 hne => upd_other _ _ (by simpa using hne)
  have hle : MuLe μ μ' := by
    intro k1 g1 c1 h1
    by_cases e : k1 = k ∧ g1 = g'
    · obtain ⟨rfl, rfl⟩ := e
      by_cases eg : g1 = g
      · rw [← hmono eg]; exact h1
      · rw [h.gen k1 g st cs hk g1 (by omega)] at h1; cases h1
    · rw [hmu k1 g1 e]; exact h1
  have hmof : ∀ c, c < w.heap.size → Wof (Ab.upd s (.h k) (.blk g' st' cs')) μ' c → Wof s μ c := by
    rintro c hlt ⟨k1, g1, cs1, L1, A1, h1, h2⟩
    by_cases e : k1 = k
    · subst e
      rw [ek] at h1
      cases h1
      rw [hnew] at h2
      cases h2
      rcases hc with hc | ⟨L, A, _, h3, h4⟩
      · omega
      · have := h4 rfl
        subst this
        exact ⟨k1, g, cs, L, A, hk, h3⟩
    · rw [eo k1 e] at h1
      rw [hmu k1 g1 (fun hh => e hh.1)] at h2
      exact ⟨k1, g1, cs1, L1, A1, h1, h2⟩
  have hext : Ext (Wof s μ) w w' := ⟨hos, htape, hout, hsz, fun b hb hM => hblk b hb fun ⟨h1, L, A, h2⟩ => hM ⟨k, g, cs, L, A, by rw [hk, h1], h2⟩⟩
  have hst : Step s μ w (Ab.upd s (.h k) (.blk g' st' cs')) μ' w' := ⟨hle, hext, hmof⟩
  refine ⟨⟨?_, ?_, ?_, ?_, ?_, ?_⟩, hst⟩
  · intro k1 g1 st1 cs1 h1 hst1
    by_cases e : k1 = k
    · subst e
      rw [ek] at h1
      cases h1
      obtain ⟨arr, el, f, h2⟩ := hrow hst.up hst1
      exact ⟨c', A', arr, el, f, hnew, h2⟩
    · rw [eo k1 e] at h1
      obtain ⟨c, A, arr, el, f, h2, h3, h4, h5, h6, h7⟩ := h.row k1 g1 st1 cs1 h1 hst1
      refine ⟨c, A, arr, el, f, by rw [hmu k1 g1 (fun hh => e hh.1)]; exact h2, ?_, h4, h5, h6, fun i x hx => ?_⟩
      · rw [hblk c (h.old _ _ _ _ _ h2).1 fun ⟨hs2, L, A2, hh⟩ => e (h.inj k1 g1 st1 cs1 k g st cs c _ _ L A2 h1 hst1 hk (by omega) h2 hh)]
        exact h3
      · obtain ⟨h8, v, h9, h10⟩ := h7 i x hx
        exact ⟨h8, v, h9, Rep.mono hst.up _ _ h10⟩
  · intro k1 g1 st1 cs1 k2 g2 st2 cs2 c L A L' A2 h1 hs1 h2 hs2 h3 h4
    by_cases e1 : k1 = k <;> by_cases e2 : k2 = k
    · omega
    · subst e1
      rw [ek] at h1
      cases h1
      rw [eo k2 e2] at h2
      rw [hmu k2 g2 (fun hh => e2 hh.1)] at h4
      rw [hnew] at h3
      cases h3
      exfalso
      rcases hc with hc | ⟨L3, A3, h5, h6, _⟩
      · have := (h.old _ _ _ _ _ h4).1; omega
      · exact e2 (h.inj k2 g2 st2 cs2 k1 g st cs c' _ _ _ _ h2 hs2 hk h5 h4 h6)
    · subst e2
      rw [ek] at h2
      cases h2
      rw [eo k1 e1] at h1
      rw [hmu k1 g1 (fun hh => e1 hh.1)] at h3
      rw [hnew] at h4
      cases h4
      exfalso
      rcases hc with hc | ⟨L3, A3, h5, h6, _⟩
      · have := (h.old _ _ _ _ _ h3).1; omega
      · exact e1 (h.inj k1 g1 st1 cs1 k2 g st cs c' _ _ _ _ h1 hs1 hk h5 h3 h6)
    · rw [eo k1 e1] at h1
      rw [eo k2 e2] at h2
      rw [hmu k1 g1 (fun hh => e1 hh.1)] at h3
      rw [hmu k2 g2 (fun hh => e2 hh.1)] at h4
      exact h.inj k1 g1 st1 cs1 k2 g2 st2 cs2 c _ _ _ _ h1 hs1 h2 hs2 h3 h4
  · intro k1 g1 c L A h1
    by_cases e : k1 = k ∧ g1 = g'
    · obtain ⟨rfl, rfl⟩ := e
      rw [hnew] at h1
      cases h1
      exact ⟨hc', by
        rcases hc with hc | ⟨L, A, _, hh, _⟩
        · intro hF; have := h.fb _ hF; omega
        · exact (h.old _ _ _ _ _ hh).2⟩
    · rw [hmu k1 g1 e] at h1
      exact ⟨Nat.lt_of_lt_of_le (h.old _ _ _ _ _ h1).1 hsz, (h.old _ _ _ _ _ h1).2⟩
  · intro k1 g1 st1 cs1 h1 g2 hg
    by_cases e : k1 = k
    · subst e
      rw [ek] at h1
      cases h1
      rw [hmu k1 g2 (fun hh => by omega)]
      exact h.gen k1 g st cs hk g2 (by omega)
    · rw [eo k1 e] at h1
      rw [hmu k1 g2 (fun hh => e hh.1)]
      exact h.gen k1 g1 st1 cs1 h1 g2 hg
  · intro k1
    by_cases e : k1 = k
    · subst e; exact ⟨g', st', cs', ek⟩
    · rw [eo k1 e]; exact h.isb k1
  · intro c hF
    exact Nat.lt_of_lt_of_le (h.fb c hF) hsz
mutual
def AV.pure : AV → Bool
  | .sc _ => true
  | .vs .. => true
  | .agg cs => AV.pureL cs
  | .tup cs => AV.pureL cs
  | _ => false
def AV.pureL : List AV → Bool
  | [] => true
  | x :: xs => x.pure && AV.pureL xs
end
theorem AV.pure_of_fz {x : AV} (h : x.fz = true) : x.pure = true := by cases x <;> simp_all [AV.fz, AV.pure]
section
variable {w : World} {μ μ' : Mu} {M M' : Nat → Prop}
mutual
theorem Rep.ghost (hM : ∀ b, M' b → M b) : ∀ (x : AV) (v : Value), x.pure = true → Rep w μ M x v → Rep w μ' M' x v
  | .sc u, v, _, h => by simpa [Rep] using h
  | .vs n xs, v, _, h => by
    simp only [Rep] at h ⊢
    obtain ⟨a, c, h1, h2, h3⟩ := h
    refine ⟨a, c, h1, h2, h3.imp id ?_⟩
    rintro ⟨b, o, h4, h5, h6⟩
    exact ⟨b, o, h4, fun hh => h5 (hM b hh), Row.ghost hM b xs o h6⟩
  | .hs .., v, hp, h => by simp [AV.pure] at hp
  | .hp .., v, hp, h => by simp [AV.pure] at hp
  | .vp .., v, hp, h => by simp [AV.pure] at hp
  | .agg cs, v, hp, h => by
    simp only [Rep] at h ⊢
    simp only [AV.pure] at hp
    obtain ⟨vs, h1, h2⟩ := h
    exact ⟨vs, h1, RepL.ghost hM cs vs.toList hp h2⟩
  | .tup cs, v, hp, h => by
    simp only [Rep] at h ⊢
    simp only [AV.pure] at hp
    obtain ⟨vs, h1, h2⟩ := h
    exact ⟨vs, h1, RepL.ghost hM cs vs.toList hp h2⟩
  | .blk .., v, hp, h => by simp [AV.pure] at hp
theorem RepL.ghost (hM : ∀ b, M' b → M b) : ∀ (xs : List AV) (vs : List Value), AV.pureL xs = true → RepL w μ M xs vs → RepL w μ' M' xs vs
  | [], [], _, _ => by simp [RepL]
  | x :: xs, v :: vs, hp, h => by
    simp only [RepL] at h ⊢
    simp only [AV.pureL, Bool.and_eq_true] at hp
    exact ⟨Rep.ghost hM x v hp.1 h.1, RepL.ghost hM xs vs hp.2 h.2⟩
  | [], _ :: _, _, h => by simp [RepL] at h
  | _ :: _, [], _, h => by simp [RepL] at h
theorem Row.ghost (hM : ∀ b, M' b → M b) (b : Nat) : ∀ (xs : List AV) (o : Nat), Row w μ M b o xs → Row w μ' M' b o xs
  | [], o, _ => by simp [Row]
  | x :: xs, o, h => by
    simp only [Row] at h ⊢
    obtain ⟨⟨h1, v, h2, h3⟩, h4⟩ := h
    exact ⟨⟨h1, v, h2, Rep.ghost hM x v (AV.pure_of_fz h1) h3⟩, Row.ghost hM b xs (o + 1) h4⟩
end
end
end Go.Ab
end
section
namespace Go.Ab
open Go
abbrev Asg := List (Loc × AV)
def app (s : S) (A : Asg) : S := A.foldl (fun s p => upd s p.1 p.2) s
theorem app_nil (s : S) : app s [] = s := rfl
theorem app_cons (s : S) (p : Loc × AV) (A : Asg) : app s (p :: A) = app (upd s p.1 p.2) A := rfl
theorem app_append (s : S) (A B : Asg) : app s (A ++ B) = app (app s A) B := by simp [app]
theorem app_not {l : Loc} : ∀ {A : Asg} {s : S}, l ∉ A.map (·.1) → app s A l = s l
  | [], s, _ => rfl
  | (m, v) :: A, s, h => by
    simp only [List.map_cons, List.mem_cons, not_or] at h
    rw [app_cons, app_not h.2, upd_other _ _ h.1]
theorem app_congr {l : Loc} : ∀ {A : Asg} {s s' : S}, (s l = s' l ∨ l ∈ A.map (·.1)) → app s A l = app s' A l
  | [], s, s', h => by simpa [app] using h
  | (m, v) :: A, s, s', h => by
    rw [app_cons, app_cons]
    apply app_congr
    by_cases e : l = m
    · subst e; left; simp [upd]
    · rcases h with h | h
      · left; simp [upd, e, h]
      · right; simpa [e] using h
def foldS (s : S) (fs : List (Bool × Asg)) : S := fs.foldl (fun s p => if p.1 then app s p.2 else s) s
theorem foldS_cons (s : S) (p : Bool × Asg) (fs : List (Bool × Asg)) : foldS s (p :: fs) = foldS (if p.1 then app s p.2 else s) fs := rfl
theorem foldS_at {l : Loc} : ∀ {fs gs : List (Bool × Asg)} {s s' : S}, fs.length = gs.length → s l = s' l →
    (∀ (i : Nat) (b : Bool) (A : Asg) (b' : Bool) (A' : Asg), fs[i]? = some (b, A) → gs[i]? = some (b', A') → A = A' ∧ (b ≠ b' → l ∉ A.map (·.1))) → foldS s fs l = foldS s' gs l
  | [], [], s, s', _, h, _ => h
  | (b, A) :: fs, (b', A') :: gs, s, s', hl, h, hd => by
    rw [foldS_cons, foldS_cons]
    obtain ⟨e, h0⟩ := hd 0 b A b' A' (by simp) (by simp)
    subst e
    refine foldS_at (by simpa using hl) ?_ fun i c B c' B' h1 h2 => hd (i + 1) c B c' B' (by simpa using h1) (by simpa using h2)
    by_cases e : b = b'
    · subst e
      cases b
      · exact h
      · exact app_congr (.inl h)
    · have hn := h0 e
      cases b <;> cases b' <;> simp_all [app_not]
  | [], _ :: _, _, _, h, _, _ => by simp at h
  | _ :: _, [], _, _, h, _, _ => by simp at h
theorem foldS_append (s : S) (fs gs : List (Bool × Asg)) : foldS s (fs ++ gs) = foldS (foldS s fs) gs := by simp [foldS]
theorem foldS_quiet {l : Loc} : ∀ {fs : List (Bool × Asg)} {s : S}, (∀ A, (true, A) ∈ fs → l ∉ A.map (·.1)) → foldS s fs l = s l
  | [], s, _ => rfl
  | (b, A) :: fs, s, h => by
    rw [foldS_cons, foldS_quiet fun A hA => h A (by simp [hA])]
    cases b
    · rfl
    · exact app_not (h A (by simp))
theorem foldS_more {s : S} {fs gs : List (Bool × Asg)} {A : Asg} (h : ∀ l ∈ A.map (·.1), ∀ B, (true, B) ∈ gs → l ∉ B.map (·.1)) :
    foldS s (fs ++ (true, A) :: gs) = app (foldS s (fs ++ (false, A) :: gs)) A := by
  funext l
  rw [foldS_append, foldS_append, foldS_cons, foldS_cons]
  simp only [if_true, Bool.false_eq_true, if_false]
  by_cases hl : l ∈ A.map (·.1)
  · rw [foldS_quiet (h l hl)]
    exact app_congr (.inr hl)
  · rw [app_not hl]
    refine foldS_at rfl (app_not hl) fun i b B b' B' h1 h2 => ?_
    rw [h1] at h2
    cases h2
    exact ⟨rfl, fun hh => absurd rfl hh⟩
abbrev Ent := List Loc × List Loc
def apart (a b : List Loc) : Bool := a.all fun l => !b.contains l
def edgesOf (o : Oper) : List Nat := (o.after.toList.filter (Region.binds .any)).map (·.on)
def masks : List Oper → List Nat → List Nat
  | [], acc => acc
  | o :: ops, acc => masks ops (acc ++ [(edgesOf o).foldl (fun m e => m ||| 2 ^ e ||| acc.getD e 0) 0])
def okPairs (ms : List Nat) (L : List Ent) : Bool :=
  (List.range L.length).all fun j => (List.range j).all fun i =>
    (ms.getD j 0).testBit i || (match L[i]?, L[j]? with
      | some (ri, wi), some (rj, wj) => apart wi rj && apart wi wj && apart wj ri
      | _, _ => true)
def edgesOK (ops : List Oper) : Bool := ops.zipIdx.all fun (o, i) => (edgesOf o).all (· < i)
def okLog (ops : Array Oper) (L : List Ent) : Bool := edgesOK ops.toList && okPairs (masks ops.toList []) L
theorem apart_spec {a b : List Loc} (h : apart a b = true) {l : Loc} (ha : l ∈ a) : l ∉ b := by
  simp only [apart, List.all_eq_true] at h
  simpa using h l ha
def Down (ops : List Oper) (D : Nat → Prop) : Prop := ∀ (i : Nat) (o : Oper), ops[i]? = some o → D i → ∀ e ∈ edgesOf o, D e
theorem foldl_mask (acc : List Nat) : ∀ (es : List Nat) (m j : Nat), (es.foldl (fun m e => m ||| 2 ^ e ||| acc.getD e 0) m).testBit j = true →
    m.testBit j = true ∨ ∃ e ∈ es, j = e ∨ (acc.getD e 0).testBit j = true
  | [], m, j, h => .inl h
  | e :: es, m, j, h => by
    rcases foldl_mask acc es _ j h with h | ⟨e', h1, h2⟩
    · simp only [Nat.testBit_or, Bool.or_eq_true] at h
      rcases h with (h | h) | h
      · exact .inl h
      · refine .inr ⟨e, by simp, .inl ?_⟩
        rw [Nat.testBit_two_pow] at h
        simpa [eq_comm] using h
      · exact .inr ⟨e, by simp, .inr h⟩
    · exact .inr ⟨e', by simp [h1], h2⟩
theorem masks_spec {D : Nat → Prop} : ∀ (ops : List Oper) (acc : List Nat) (full : List Oper), full.drop acc.length = ops → Down full D →
    (∀ j i, D j → (acc.getD j 0).testBit i = true → D i) → ∀ j i, D j → ((masks ops acc).getD j 0).testBit i = true → D i
  | [], acc, full, _, _, h => h
  | o :: ops, acc, full, hd, hD, h => by
    unfold masks
    have ho : full[acc.length]? = some o := by
      have : (full.drop acc.length)[0]? = some o := by rw [hd]; rfl
      simpa using this
    refine masks_spec ops _ full ?_ hD ?_
    · simp only [List.length_append, List.length_cons, List.length_nil]
      rw [← List.drop_drop, hd]
      rfl
    · intro j i hj hb
      by_cases e : j < acc.length
      · refine h j i hj ?_
        simpa [List.getD_eq_getElem?_getD, List.getElem?_append_left e] using hb
      · by_cases e2 : j = acc.length
        · subst e2
          have hb' : ((edgesOf o).foldl (fun m e => m ||| 2 ^ e ||| acc.getD e 0) 0).testBit i = true := by
            simpa [List.getD_eq_getElem?_getD] using hb
          rcases foldl_mask acc _ _ _ hb' with h1 | ⟨e3, h2, h3⟩
          · simp at h1
          · have hde := hD _ _ ho hj e3 h2
            rcases h3 with rfl | h3
            · exact hde
            · exact h e3 i hde h3
        · exfalso
          rw [List.getD_eq_getElem?_getD, List.getElem?_eq_none (by simp; omega)] at hb
          simp at hb
theorem okPairs_spec {ms : List Nat} {L : List Ent} (h : okPairs ms L = true) {i j : Nat} (hij : i < j) (hj : j < L.length) {ri wi rj wj : List Loc} (hi : L[i]? = some (ri, wi)) (hj' : L[j]? = some (rj, wj)) :
    (ms.getD j 0).testBit i = true ∨ (apart wi rj = true ∧ apart wi wj = true ∧ apart wj ri = true) := by
  simp only [okPairs, List.all_eq_true, List.mem_range] at h
  have := h j hj i hij
  rw [hi, hj'] at this
  simpa [and_assoc] using this
section region
variable {P : Program} {F : Nat → Prop} {nt : Nat} {ops : Array Oper}
def stAt (s : S) (As : List Asg) (j : Nat) : S := (As.take j).foldl app s
def flags (D : Nat → Bool) (As : List Asg) : List (Bool × Asg) := As.zipIdx.map fun p => (D p.2, p.1)
theorem flags_get (D : Nat → Bool) (As : List Asg) (i : Nat) : (flags D As)[i]? = (As[i]?).map fun A => (D i, A) := by
  simp only [flags, List.getElem?_map, List.getElem?_zipIdx, Option.map_map]
  rcases As[i]? with _ | A <;> simp
theorem flags_length (D : Nat → Bool) (As : List Asg) : (flags D As).length = As.length := by simp [flags]
theorem foldS_all : ∀ (As : List Asg) (s : S) (fs : List (Bool × Asg)), fs.map (·.2) = As → (∀ p ∈ fs, p.1 = true) → foldS s fs = As.foldl app s
  | [], s, [], _, _ => rfl
  | A :: As, s, p :: fs, h, ht => by
    simp only [List.map_cons, List.cons.injEq] at h
    rw [foldS_cons, ht p (by simp), h.1]
    exact foldS_all As (app s A) fs h.2 fun q hq => ht q (by simp [hq])
  | [], _, _ :: _, h, _ => by simp at h
  | _ :: _, _, [], h, _ => by simp at h
theorem foldS_none : ∀ (s : S) (fs : List (Bool × Asg)), (∀ p ∈ fs, p.1 = false) → foldS s fs = s
  | s, [], _ => rfl
  | s, p :: fs, ht => by
    rw [foldS_cons, ht p (by simp)]
    exact foldS_none s fs fun q hq => ht q (by simp [hq])
theorem flags_map (D : Nat → Bool) (As : List Asg) : (flags D As).map (·.2) = As := by
  apply List.ext_getElem?
  intro i
  rw [List.getElem?_map, flags_get]
  rcases As[i]? with _ | A <;> simp
theorem flags_take (As : List Asg) (i : Nat) (s : S) : foldS s (flags (fun j => decide (j < i)) As) = stAt s As i := by
  have : flags (fun j => decide (j < i)) As = flags (fun j => decide (j < i)) (As.take i) ++ ((flags (fun j => decide (j < i)) As).drop i) := by
    apply List.ext_getElem?
    intro j
    by_cases h : j < (As.take i).length
    · rw [List.getElem?_append_left (by rw [flags_length]; exact h), flags_get, flags_get, List.getElem?_take, if_pos (by simp at h; omega)]
    · rw [List.getElem?_append_right (by rw [flags_length]; omega), flags_length, List.getElem?_drop]
      simp only [List.length_take] at h ⊢
      by_cases h2 : i ≤ As.length
      · rw [Nat.min_eq_left h2, show i + (j - i) = j by omega]
      · rw [flags_get, flags_get, List.getElem?_eq_none (by omega), List.getElem?_eq_none (by omega)]; rfl
  rw [this, foldS_append, foldS_none]
  · exact foldS_all _ _ _ (flags_map _ _) fun p hp => by
      obtain ⟨j, hj⟩ := List.getElem?_of_mem hp
      rw [flags_get, List.getElem?_take] at hj
      split at hj
      · rename_i hlt
        rcases hA : As[j]? with _ | A <;> rw [hA] at hj <;> simp at hj
        rw [← hj]; simpa using hlt
      · simp at hj
  · intro p hp
    obtain ⟨j, hj⟩ := List.getElem?_of_mem hp
    rw [List.getElem?_drop, flags_get] at hj
    rcases hA : As[i + j]? with _ | A <;> rw [hA] at hj <;> simp at hj
    rw [← hj]; simp
def lsD (listed : Array Bool) (j : Nat) : Bool := listed.getD j false
theorem region_any {Q : Exit → Act → World → Prop} (As : List Asg) (Es : List Ent) (s0 : S) (μ0 : Mu) (w0 : World)
    (hlA : As.length = ops.size) (hlE : Es.length = ops.size) (hW : ∀ (j : Nat) (A : Asg) (E : Ent), As[j]? = some A → Es[j]? = some E → E.2 = A.map (·.1))
    (hok : okLog ops Es = true)
    (hdo : ∀ (i : Nat) (A : Asg) (E : Ent), As[i]? = some A → Es[i]? = some E → ∀ (s : S) (μ : Mu) (a : Act) (w : World) (K : Act → World → Prop),
      (∀ l ∈ E.1, s l = stAt s0 As i l) → Sim F s μ a w → a.tmps.size = nt →
      (∀ a' w' μ', Sim F (app s A) μ' a' w' → Step s μ w (app s A) μ' w' → a'.tmps.size = nt → K a' w') → wpOp P ops Q i K a w)
    (hend : ∀ a' w' μ', Sim F (As.foldl app s0) μ' a' w' → Step s0 μ0 w0 (As.foldl app s0) μ' w' → a'.tmps.size = nt → Q .normal a' w') :
    ∀ (fuel : Nat) (listed : Array Bool) (μ : Mu) (a : Act) (w : World), listed.size = ops.size → ops.size ≤ fuel + (listed.toList.filter id).length →
      Down ops.toList (fun j => lsD listed j = true) → Sim F (foldS s0 (flags (lsD listed) As)) μ a w → Step s0 μ0 w0 (foldS s0 (flags (lsD listed) As)) μ w → a.tmps.size = nt →
      wpAny P .any ops Q fuel listed a w := by
  have hok' := hok
  simp only [okLog, Bool.and_eq_true] at hok'
  obtain ⟨hed, hpr⟩ := hok'
  have hedge : ∀ (i : Nat) (o : Oper), ops.toList[i]? = some o → ∀ e ∈ edgesOf o, e < i := by
    intro i o ho e he
    simp only [edgesOK, List.all_eq_true, decide_eq_true_eq] at hed
    exact hed (o, i) (List.mem_zipIdx_iff_getElem?.2 ho) e he
  have hfull : ∀ (listed : Array Bool), listed.size = ops.size → Region.ready .any ops listed = [] → ∀ i, i < ops.size → lsD listed i = true := by
    intro listed hls hr i
    induction i using Nat.strongRecOn with
    | _ i ih =>
      intro hi
      rcases hli : lsD listed i with _ | _
      · exfalso
        have hmem : i ∈ Region.ready .any ops listed := by
          rw [Region.ready, List.mem_filter]
          refine ⟨by simpa using hi, ?_⟩
          have hnl : listed.getD i true = false := by
            simp only [lsD, Array.getD_eq_getD_getElem?] at hli ⊢
            rw [Array.getElem?_eq_getElem (by omega)] at hli ⊢
            simpa using hli
          have ho : ops[i]? = some ops[i] := Array.getElem?_eq_getElem hi
          rw [hnl, ho]
          simp only [Bool.not_false, Bool.true_and, Option.map_some, Option.getD_some]
          rw [Array.all_eq_true_iff_forall_mem]
          intro e he
          rcases hb : Region.binds .any e with _ | _
          · rfl
          · simp only [Bool.not_true, Bool.false_or]
            have hmem : e.on ∈ edgesOf ops[i] := by
              simp only [edgesOf, List.mem_map, List.mem_filter]
              exact ⟨e, ⟨Array.mem_toList_iff.2 he, hb⟩, rfl⟩
            have hlt := hedge i ops[i] (by simpa using ho) e.on hmem
            exact ih e.on hlt (by omega)
        rw [hr] at hmem
        cases hmem
      · rfl
  have hfin : ∀ (listed : Array Bool) (μ : Mu) (a : Act) (w : World), listed.size = ops.size → Region.ready .any ops listed = [] →
      Sim F (foldS s0 (flags (lsD listed) As)) μ a w → Step s0 μ0 w0 (foldS s0 (flags (lsD listed) As)) μ w → a.tmps.size = nt → Q .normal a w := by
    intro listed μ a w hls hr hsim hst hnt
    have hall := hfull listed hls hr
    have e : foldS s0 (flags (lsD listed) As) = As.foldl app s0 := foldS_all _ _ _ (flags_map _ _) fun p hp => by
      obtain ⟨j, hj⟩ := List.getElem?_of_mem hp
      rw [flags_get] at hj
      rcases hA : As[j]? with _ | A <;> rw [hA] at hj <;> simp at hj
      rw [← hj]
      exact hall j (by rw [← hlA]; exact (List.getElem?_eq_some_iff.1 hA).1)
    rw [e] at hsim hst
    exact hend _ _ _ hsim hst hnt
  intro fuel
  induction fuel with
  | zero =>
    intro listed μ a w hls hfu hdown hsim hst hnt
    have hr : Region.ready .any ops listed = [] := by
      have hl : (listed.toList.filter id).length ≤ listed.toList.length := List.length_filter_le _ _
      have hl2 : listed.toList.length = ops.size := by simpa using hls
      have he : (listed.toList.filter id).length = listed.toList.length := by omega
      have hall := List.length_filter_eq_length_iff.1 he
      rw [Region.ready, List.filter_eq_nil_iff]
      intro i hi
      have hi' : i < listed.size := by rw [hls]; simpa using hi
      have : listed.getD i true = true := by
        rw [Array.getD_eq_getD_getElem?, Array.getElem?_eq_getElem hi']
        exact hall _ (by simp)
      simp [this]
    exact ⟨hr, hfin listed μ a w hls hr hsim hst hnt⟩
  | succ fuel ih =>
    intro listed μ a w hls hfu hdown hsim hst hnt
    refine ⟨fun hr => hfin listed μ a w hls hr hsim hst hnt, fun i hi => ?_⟩
    rw [Region.ready, List.mem_filter] at hi
    obtain ⟨hi1, hi2⟩ := hi
    have hin : i < ops.size := by simpa using hi1
    simp only [Bool.and_eq_true, Bool.not_eq_true'] at hi2
    obtain ⟨hnl, hedges⟩ := hi2
    have hli : lsD listed i = false := by
      simp only [lsD, Array.getD_eq_getD_getElem?] at hnl ⊢
      rw [Array.getElem?_eq_getElem (by omega)] at hnl ⊢
      simpa using hnl
    have ho : ops[i]? = some ops[i] := Array.getElem?_eq_getElem hin
    have hdi : ∀ e ∈ edgesOf ops[i], lsD listed e = true := by
      intro e he
      rw [ho] at hedges
      simp only [Option.map_some, Option.getD_some] at hedges
      rw [Array.all_eq_true_iff_forall_mem] at hedges
      simp only [edgesOf, List.mem_map, List.mem_filter] at he
      obtain ⟨ed, ⟨h1, h2⟩, rfl⟩ := he
      have := hedges ed (by simpa using h1)
      rw [h2] at this
      simpa [lsD] using this
    have hdown' : Down ops.toList (fun j => lsD (listed.setIfInBounds i true) j = true) := by
      intro j o hj hD e he
      by_cases hji : j = i
      · subst hji
        have : o = ops[j] := by
          have : ops[j]? = some o := by simpa using hj
          rw [ho] at this
          exact (Option.some.inj this).symm
        subst this
        exact getD_set_true (hdi e he)
      · have : lsD listed j = true := by
          have h0 : lsD (listed.setIfInBounds i true) j = true := hD
          unfold lsD at h0 ⊢
          rwa [getD_set_ne false (by omega)] at h0
        exact getD_set_true (hdown j o hj this e he)
    have hbef : ∀ j, ((masks ops.toList []).getD i 0).testBit j = true → j ≠ i → lsD listed j = true := by
      intro j hb hji
      have := masks_spec (D := fun j => lsD (listed.setIfInBounds i true) j = true) ops.toList [] ops.toList (by simp) hdown'
        (fun j i _ h => by simp at h) i j (by
          show (listed.setIfInBounds i true).getD i false = true
          rw [Array.getD_eq_getD_getElem?, Array.getElem?_setIfInBounds]
          simp [show i < listed.size by omega]) hb
      have h0 : lsD (listed.setIfInBounds i true) j = true := this
      unfold lsD at h0 ⊢
      rwa [getD_set_ne false (by omega)] at h0
    have hbeh : ∀ j, lsD listed j = true → ((masks ops.toList []).getD j 0).testBit i = false := by
      intro j hj
      rcases hb : ((masks ops.toList []).getD j 0).testBit i with _ | _
      · rfl
      · have := masks_spec (D := fun j => lsD listed j = true) ops.toList [] ops.toList (by simp) hdown (fun j i _ h => by simp at h) j i hj hb
        rw [hli] at this
        cases this
    have hAi : As[i]? = some As[i] := List.getElem?_eq_getElem (by omega)
    have hEi : Es[i]? = some Es[i] := List.getElem?_eq_getElem (by omega)
    have hWi := hW i _ _ hAi hEi
    have hrel : ∀ j A, As[j]? = some A → j ≠ i → lsD listed j ≠ decide (j < i) → (∀ l ∈ Es[i].1, l ∉ A.map (·.1)) ∧ (∀ l ∈ As[i].map (·.1), l ∉ A.map (·.1)) := by
      intro j A hA hji hne
      have hjl : j < As.length := (List.getElem?_eq_some_iff.1 hA).1
      have hEj : Es[j]? = some Es[j] := List.getElem?_eq_getElem (by omega)
      have hWj := hW j _ _ hA hEj
      by_cases hlt : j < i
      · have hlj : lsD listed j = false := by
          rcases h : lsD listed j with _ | _
          · rfl
          · rw [h] at hne; exact absurd (by simp [hlt]) hne
        have hEj' : Es[j]? = some (Es[j].1, Es[j].2) := hEj
        have hEi' : Es[i]? = some (Es[i].1, Es[i].2) := hEi
        rcases okPairs_spec hpr hlt (by omega) hEj' hEi' with h | ⟨h1, h2, h3⟩
        · rw [hbef j h hji] at hlj; cases hlj
        · rw [hWj] at h1 h2
          refine ⟨fun l hl hm => apart_spec h1 hm hl, fun l hl hm => ?_⟩
          rw [← hWi] at hl
          exact apart_spec h2 hm hl
      · have hlj : lsD listed j = true := by
          rcases h : lsD listed j with _ | _
          · rw [h] at hne; exact absurd (by simp; omega) hne
          · rfl
        have hEj' : Es[j]? = some (Es[j].1, Es[j].2) := hEj
        have hEi' : Es[i]? = some (Es[i].1, Es[i].2) := hEi
        rcases okPairs_spec hpr (show i < j by omega) (by omega) hEi' hEj' with h | ⟨h1, h2, h3⟩
        · rw [hbeh j hlj] at h; cases h
        · rw [hWj] at h2 h3
          refine ⟨fun l hl hm => apart_spec h3 hm hl, fun l hl => ?_⟩
          rw [← hWi] at hl
          exact apart_spec h2 hl
    have hread : ∀ l ∈ Es[i].1, foldS s0 (flags (lsD listed) As) l = stAt s0 As i l := by
      intro l hl
      rw [← flags_take]
      refine foldS_at (by simp [flags_length]) rfl fun j b A b' A' h1 h2 => ?_
      rw [flags_get] at h1 h2
      rcases hA : As[j]? with _ | B <;> rw [hA] at h1 h2 <;> simp at h1 h2
      obtain ⟨rfl, rfl⟩ := h1
      obtain ⟨rfl, rfl⟩ := h2
      refine ⟨rfl, fun hne => ?_⟩
      by_cases hji : j = i
      · subst hji
        rw [hli] at hne
        simp at hne
      · exact (hrel j _ hA hji hne).1 l hl
    have hmore : app (foldS s0 (flags (lsD listed) As)) As[i] = foldS s0 (flags (lsD (listed.setIfInBounds i true)) As) := by
      funext l
      by_cases hl : l ∈ As[i].map (·.1)
      ·
        have e1 : flags (lsD (listed.setIfInBounds i true)) As = (flags (lsD (listed.setIfInBounds i true)) As).take i ++ (true, As[i]) :: (flags (lsD (listed.setIfInBounds i true)) As).drop (i + 1) := by
          conv => lhs; rw [← List.take_append_drop i (flags (lsD (listed.setIfInBounds i true)) As)]
          congr 1
          rw [List.drop_eq_getElem_cons (by rw [flags_length]; omega)]
          congr 1
          have := flags_get (lsD (listed.setIfInBounds i true)) As i
          rw [hAi, List.getElem?_eq_getElem (by rw [flags_length]; omega)] at this
          simp only [Option.map_some, Option.some.injEq] at this
          rw [this]
          congr 1
          show (listed.setIfInBounds i true).getD i false = true
          rw [Array.getD_eq_getD_getElem?, Array.getElem?_setIfInBounds]
          simp [show i < listed.size by omega]
        rw [e1, foldS_append, foldS_cons]
        simp only [if_true]
        rw [foldS_quiet]
        · exact app_congr (.inr hl)
        · intro B hB
          obtain ⟨j, hj⟩ := List.getElem?_of_mem hB
          rw [List.getElem?_drop, flags_get] at hj
          rcases hA : As[i + 1 + j]? with _ | C <;> rw [hA] at hj <;> simp at hj
          obtain ⟨h1, rfl⟩ := hj
          have h2 : lsD listed (i + 1 + j) = true := by
            unfold lsD at h1 ⊢
            rwa [getD_set_ne false (by omega)] at h1
          exact (hrel _ _ hA (by omega) (by rw [h2]; simp; omega)).2 l hl
      · rw [app_not hl]
        refine foldS_at (by simp [flags_length]) rfl fun j b A b' A' h1 h2 => ?_
        rw [flags_get] at h1 h2
        rcases hA : As[j]? with _ | B <;> rw [hA] at h1 h2 <;> simp at h1 h2
        obtain ⟨rfl, rfl⟩ := h1
        obtain ⟨rfl, rfl⟩ := h2
        refine ⟨rfl, fun hne => ?_⟩
        by_cases hji : j = i
        · subst hji
          rw [hAi] at hA
          cases hA
          exact hl
        · exfalso
          apply hne
          unfold lsD
          rw [getD_set_ne false (by omega)]
    refine hdo i _ _ hAi hEi _ μ a w _ hread hsim hnt fun a' w' μ' hs hst' hnt' => ?_
    rw [hmore] at hs hst'
    refine ih _ μ' a' w' (by simpa using hls) ?_ hdown' hs (hst.trans hst') hnt'
    have hcount : (listed.toList.filter id).length + 1 ≤ ((listed.setIfInBounds i true).toList.filter id).length := by
      have hil : i < listed.toList.length := by simp; omega
      have hv : listed.toList[i] = false := by
        have := hli
        simp only [lsD, Array.getD_eq_getD_getElem?] at this
        rw [Array.getElem?_eq_getElem (by omega)] at this
        simpa using this
      have e1 : listed.toList = listed.toList.take i ++ false :: listed.toList.drop (i + 1) := by
        conv => lhs; rw [← List.take_append_drop i listed.toList]
        rw [List.drop_eq_getElem_cons hil, hv]
      have e2 : (listed.setIfInBounds i true).toList = listed.toList.take i ++ true :: listed.toList.drop (i + 1) := by
        rw [Array.toList_setIfInBounds, List.set_eq_take_append_cons_drop, if_pos hil]
      rw [e2]
      conv => lhs; rw [e1]
      simp
      omega
    omega
end region
end Go.Ab
end
section
namespace Go.Ab
open Go
structure Ty where
  d : TypeDesc
  sz : Nat
  z : Option (List Value)
  by_ : Nat
def tyOf (P : Program) (t : TypeId) : Option Ty :=
  match P.underlying t, P.info? t with
  | some d, some i => some ⟨d, i.size, i.zero.map (·.cells.toList), i.bytes⟩
  | _, _ => none
def isRow : TypeDesc → Bool
  | .struct _ | .array _ _ => true
  | _ => false
def tabAt : List (Nat × List Value) → Nat → Option (List Value)
  | [], _ => none
  | t :: l, g => if t.1 = g then some t.2 else tabAt l g
theorem tabAt_mem : ∀ {l : List (Nat × List Value)} {g : Nat} {vs : List Value}, tabAt l g = some vs → (g, vs) ∈ l
  | [], _, _, h => by simp [tabAt] at h
  | t :: l, g, vs, h => by
    simp only [tabAt] at h
    split at h
    · rename_i e
      cases h
      rw [← e]
      exact List.mem_cons_self
    · exact List.mem_cons_of_mem _ (tabAt_mem h)
def tabAV (g : Nat) : AV :=
  match tabAt tabs g with
  | some vs => .vp (vs.map .sc)
  | none => .sc (.pointer (some ⟨g, 0, none⟩))
def ev (s : S) : Operand → AV
  | .tmp t => s (.t t)
  | .const v => .sc v
  | .global g => tabAV g
  | .func f => .sc (.func (.func f) #[] #[])
def AV.cellsA : AV → List AV
  | .agg cs => cs
  | .sc v => v.cells.toList.map .sc
  | x => [x]
abbrev Eff := AV × List (Nat × AV)
def genOf : AV → Nat
  | .blk g _ _ => g
  | _ => 0
def anew (B : Nat) (dst : Option Tmp) (h : Nat → AV) (mk : Nat → Nat → AV) (cs : List AV) : Option Eff :=
  match dst with
  | none => none
  | some d => if cs.all AV.one = true then some (mk (B + d) (genOf (h (B + d)) + 1), [(B + d, .blk (genOf (h (B + d)) + 1) 2 cs)]) else none
def setAt : List AV → Nat → List AV → List AV
  | cs, _, [] => cs
  | cs, i, v :: vs => setAt (cs.set i v) (i + 1) vs
def acut (d : TypeDesc) (sz : Nat) (cs : List AV) (off : Nat) : Option AV :=
  if isRow d then (if off + sz ≤ cs.length then some (.agg ((cs.drop off).take sz)) else none) else cs[off]?
def aload (P : Program) (t : TypeId) (x : AV) (h : Nat → AV) : Option AV :=
  match tyOf P t with
  | none => none
  | some ty => match x with
    | .hp k g off => match h k with
      | .blk g' st cs => if g' = g ∧ st ≠ 0 then acut ty.d ty.sz cs off else none
      | _ => none
    | .vp xs => acut ty.d ty.sz xs 0
    | _ => none
def astore (P : Program) (t : TypeId) (x v : AV) (h : Nat → AV) : Option Eff :=
  match tyOf P t with
  | none => none
  | some ty => match x with
    | .hp k g off => match h k with
      | .blk g' st cs => if g' = g ∧ st = 2 ∧ v.cellsA.length = ty.sz ∧ off + ty.sz ≤ cs.length ∧ v.cellsA.all AV.one = true then some (.sc undef, [(k, .blk g 2 (setAt cs off v.cellsA))]) else none
      | _ => none
    | _ => none
def afill (place : Nat → Option (Nat × Nat)) : List AV → List (Nat × AV) → Option (List AV)
  | cs, [] => some cs
  | cs, (i, v) :: rest => match place i with
    | none => none
    | some (off, size) => if v.cellsA.length = size ∧ off + size ≤ cs.length then afill place (setAt cs off v.cellsA) rest else none
def placesOf (P : Program) : List Field → Option (List (Nat × Nat))
  | [] => some []
  | f :: fs => match tyOf P f.type, placesOf P fs with
    | some ty, some l => some ((f.offset, ty.sz) :: l)
    | _, _ => none
def abuild (P : Program) (t : TypeId) (parts : List (Nat × AV)) : Option AV :=
  match tyOf P t with
  | some ⟨.struct fs, _, some z, _⟩ => match placesOf P fs.toList with
    | some l => (afill (l[·]?) (z.map .sc) parts).map .agg
    | none => none
  | some ⟨.array _ e, _, some z, _⟩ => match tyOf P e with
    | some ty => (afill (fun i => some (i * ty.sz, ty.sz)) (z.map .sc) parts).map .agg
    | none => none
  | _ => none
def zrow (n : Nat) (z : List Value) : List AV := if z.length = 1 then List.replicate n (.sc (z.headD undef)) else (List.replicate n (z.map AV.sc)).flatten
def aslice0 (P : Program) (t : TypeId) : Option (TypeId × Ty) :=
  match tyOf P t with
  | some ⟨.slice e, _, _, _⟩ => (tyOf P e).map fun ty => (e, ty)
  | _ => none
def abuildSlice (P : Program) (B : Nat) (dst : Option Tmp) (h : Nat → AV) (t : TypeId) (len : Nat) (parts : List (Nat × AV)) : Option Eff :=
  match aslice0 P t with
  | some (_, ⟨_, sz, some z, _⟩) => if z.length = sz ∧ len * sz ≤ 2 ^ 24 then
      (match afill (fun i => some (i * sz, sz)) (zrow len z) parts with
       | some cs => anew B dst h (fun k g => .hs k g 0 len sz) cs
       | none => none) else none
  | _ => none
def bAnd (k : IntKind) (a b : Int) : Int := k.wrap (BitVec.ofInt k.bits a &&& BitVec.ofInt k.bits b).toNat
def bOr (k : IntKind) (a b : Int) : Int := k.wrap (BitVec.ofInt k.bits a ||| BitVec.ofInt k.bits b).toNat
def bXor (k : IntKind) (a b : Int) : Int := k.wrap (BitVec.ofInt k.bits a ^^^ BitVec.ofInt k.bits b).toNat
def bNot (k : IntKind) (n : Int) : Int := k.wrap (BitVec.ofInt k.bits (if k.signed then -1 else k.max) ^^^ BitVec.ofInt k.bits n).toNat
def ibin (op : BinOp) (k : IntKind) (a b : Int) : Option Value :=
  match op with
  | .add => some (.int k (k.wrap (a + b)))
  | .sub => some (.int k (k.wrap (a - b)))
  | .mul => some (.int k (k.wrap (a * b)))
  | .quo => if b = 0 then none else some (.int k (k.wrap (a.tdiv b)))
  | .rem => if b = 0 then none else some (.int k (a.tmod b))
  | .and => some (.int k (bAnd k a b))
  | .or => some (.int k (bOr k a b))
  | .xor => some (.int k (bXor k a b))
  | .andNot => some (.int k (k.wrap (BitVec.ofInt k.bits a &&& ~~~BitVec.ofInt k.bits b).toNat))
  | .eql => some (.bool (a == b))
  | .neq => some (.bool (a != b))
  | .lss => some (.bool (decide (a < b)))
  | .leq => some (.bool (decide (a ≤ b)))
  | .gtr => some (.bool (decide (a > b)))
  | .geq => some (.bool (decide (a ≥ b)))
  | _ => none
def sbin (op : BinOp) (a b : ByteArray) : Option Value :=
  match op with
  | .add => if a.size + b.size ≤ 9223372036854775807 then some (.string (a ++ b)) else none
  | .eql => some (.bool (a.toList == b.toList))
  | .neq => some (.bool (!(a.toList == b.toList)))
  | .lss => some (.bool (Op.bytesLess a.toList b.toList))
  | .leq => some (.bool (Op.bytesLess a.toList b.toList || a.toList == b.toList))
  | .gtr => some (.bool (!(Op.bytesLess a.toList b.toList || a.toList == b.toList)))
  | .geq => some (.bool (!Op.bytesLess a.toList b.toList))
  | _ => none
def pureRun {α : Type} (P : Program) : Sem α → Option α
  | .pure a => some a
  | .program k => pureRun P (k P)
  | .mark _ k => pureRun P k
  | _ => none
theorem pureRun_ok {α : Type} {P : Program} : ∀ {x : Sem α} {a : α}, pureRun P x = some a → ∀ w, x.run P w = .ok a w
  | .pure b, a, h, w => by simp [pureRun] at h; subst h; rfl
  | .program k, a, h, w => by
    simp only [pureRun] at h
    simpa [Sem.run] using pureRun_ok h w
  | .mark m k, a, h, w => by
    simp only [pureRun] at h
    simpa [Sem.run] using pureRun_ok h w
  | .load .., _, h, _ | .store .., _, h, _ | .new .., _, h, _ | .shape .., _, h, _ | .freeze .., _, h, _ | .frozen .., _, h, _ | .getObj .., _, h, _ | .setObj .., _, h, _
  | .choose .., _, h, _ | .sys .., _, h, _ | .halt .., _, h, _ => by simp [pureRun] at h
def nilS : AV → Value → Bool
  | .hs .., .slice none _ _ => true
  | .vs _ (_ :: _), .slice none _ _ => true
  | _, _ => false
def nilP : AV → Value → Bool
  | .hp .., .pointer none => true
  | .vp _, .pointer none => true
  | _, _ => false
def abin (P : Program) (op : BinOp) (t : TypeId) (x y : Operand) (a b : AV) : Option AV :=
  match a, b with
  | .sc (.int k m), .sc (.int k' n) =>
    match op with
    | .shl => if n < 0 then none else some (.sc (.int k (k.wrap (m * 2 ^ min n.toNat k.bits))))
    | .shr => if n < 0 then none else some (.sc (.int k (m.fdiv (2 ^ min n.toNat k.bits))))
    | _ => if k = k' then (ibin op k m n).map .sc else none
  | .sc (.string m), .sc (.string n) => (sbin op m n).map .sc
  | .sc u, .sc v => (pureRun P (do eqGuard op t x y u v; binOp op t u v)).map .sc
  | a, .sc v => match op, tyOf P t with
    | .eql, some ⟨.slice _, _, _, _⟩ => if nilS a v = true then some (.sc (.bool false)) else none
    | .neq, some ⟨.slice _, _, _, _⟩ => if nilS a v = true then some (.sc (.bool true)) else none
    | .eql, some ⟨.pointer _, _, _, _⟩ => if nilP a v = true then some (.sc (.bool false)) else none
    | .neq, some ⟨.pointer _, _, _, _⟩ => if nilP a v = true then some (.sc (.bool true)) else none
    | _, _ => none
  | _, _ => none
def aun (P : Program) (op : UnOp) (a : AV) : Option AV :=
  match a with
  | .sc (.int k n) => match op with
    | .neg => some (.sc (.int k (k.wrap (0 - n))))
    | .xor => some (.sc (.int k (bNot k n)))
    | _ => none
  | .sc (.bool b) => match op with
    | .not => some (.sc (.bool (!b)))
    | _ => none
  | .sc v => (pureRun P (Op.unary op v)).map .sc
  | _ => none
def arow (h : Nat → AV) : AV → Option (List AV)
  | .vs _ xs => some xs
  | .hs k g off n z => match h k with
    | .blk g' st cs => if g' = g ∧ st ≠ 0 ∧ off + n * z ≤ cs.length then some ((cs.drop off).take (n * z)) else none
    | _ => none
  | .sc (.slice none 0 0) => some []
  | _ => none
def alen : AV → Option Nat
  | .vs n _ => some n
  | .hs _ _ _ n _ => some n
  | .sc (.slice none n _) => some n
  | .sc (.string s) => some s.size
  | _ => none
def abytes : List AV → Option (List UInt8)
  | [] => some []
  | .sc (.int .u8 n) :: xs => match abytes xs with
    | some l => some (UInt8.ofNat n.toNat :: l)
    | none => none
  | _ => none
def aconv (P : Program) (B : Nat) (dst : Option Tmp) (h : Nat → AV) (src t : TypeId) (a : AV) : Option Eff :=
  match tyOf P t with
  | some ⟨.int k, _, _, _⟩ => match a with
    | .sc (.int _ n) => if (P.underlying src).isSome then some (.sc (.int k (k.wrap n)), []) else none
    | .sc v => (pureRun P (convert src t v)).map fun v => (.sc v, [])
    | _ => none
  | some ⟨.string, _, _, _⟩ => match aslice0 P src with
    | some (_, ⟨.int .u8, _, _, _⟩) => match (arow h a).bind abytes, a with
      | some l, .vs n xs => if n = xs.length then some (.sc (.string ⟨l.toArray⟩), []) else none
      | some l, .hs _ _ _ _ 1 => some (.sc (.string ⟨l.toArray⟩), [])
      | some _, .sc _ => some (.sc (.string .empty), [])
      | _, _ => none
    | _ => match a with
      | .sc v => (pureRun P (convert src t v)).map fun v => (.sc v, [])
      | _ => none
  | some ⟨.slice e, _, _, _⟩ => match tyOf P e, tyOf P src, a with
    | some ⟨.int .u8, _, _, _⟩, some ⟨.string, _, _, _⟩, .sc (.string s) =>
      anew B dst h (fun k g => .hs k g 0 s.size 1) (s.data.toList.map fun b => .sc (.int .u8 b.toNat))
    | _, _, _ => none
  | some _ => match a with
    | .sc v => (pureRun P (convert src t v)).map fun v => (.sc v, [])
    | _ => none
  | none => none
def amake (P : Program) (B : Nat) (dst : Option Tmp) (h : Nat → AV) (t : TypeId) (l c : AV) : Option Eff :=
  match aslice0 P t, l, c with
  | some (_, ⟨_, sz, some z, by_⟩), .sc (.int _ l), .sc (.int _ c) =>
    if z.length = sz ∧ 0 ≤ l ∧ l ≤ c ∧ (by_ : Int) * c ≤ 281474976710656 ∧ 1 ≤ by_ then anew B dst h (fun k g => .hs k g 0 l.toNat sz) (zrow l.toNat z) else none
  | _, _, _ => none
def bnd (o : Option AV) (d : Nat) : Option Nat :=
  match o with
  | none => some d
  | some (.sc (.int _ i)) => if 0 ≤ i then some i.toNat else none
  | _ => none
def aslice (P : Program) (t : TypeId) (x : AV) (lo hi mx : Option AV) (h : Nat → AV) : Option AV :=
  match x with
  | .sc (.string s) => match tyOf P t, bnd lo 0, bnd hi s.size, mx with
    | some ⟨.string, _, _, _⟩, some l, some r, none => if l ≤ r ∧ r ≤ s.size then some (.sc (.string (s.extract l r))) else none
    | _, _, _, _ => none
  | .vs n xs => match aslice0 P t, bnd lo 0, bnd hi n, mx with
    | some (_, ty), some l, some r, none => if l ≤ r ∧ r ≤ n then some (.vs (r - l) ((xs.drop (l * ty.sz)).take ((r - l) * ty.sz))) else none
    | _, _, _, _ => none
  | .hs k g off n z => match aslice0 P t, bnd lo 0, bnd hi n, mx, h k with
    | some (_, ty), some l, some r, none, .blk g' st cs => if z = ty.sz ∧ l ≤ r ∧ off + r * z ≤ cs.length ∧ 0 < z ∧ g' = g ∧ st ≠ 0 ∧ (l = 0 ∨ l < r) then some (.hs k g (off + l * z) (r - l) z) else none
    | _, _, _, _, _ => none
  | .sc (.slice none 0 0) => match aslice0 P t, bnd lo 0, bnd hi 0, mx with
    | some _, some 0, some 0, none => some (.sc (.slice none 0 0))
    | _, _, _, _ => none
  | _ => none
def fieldOf (P : Program) (t : TypeId) (f : Nat) : Option (Field × Ty) :=
  match tyOf P t with
  | some ⟨.struct fs, _, _, _⟩ => match fs[f]? with
    | some fd => (tyOf P fd.type).map fun ty => (fd, ty)
    | none => none
  | _ => none
def afieldAddr (P : Program) (t : TypeId) (x : AV) (f : Nat) : Option AV :=
  match fieldOf P t f with
  | some (fd, ty) => if ty.sz = 0 then none else match x with
    | .hp k g off => some (.hp k g (off + fd.offset))
    | .vp xs => some (.vp (xs.drop fd.offset))
    | _ => none
  | none => none
def afield (P : Program) (t : TypeId) (x : AV) (f : Nat) : Option AV :=
  match fieldOf P t f with
  | some (fd, ty) => match x with
    | .agg cs => acut ty.d ty.sz cs fd.offset
    | .sc (.agg vs) => acut ty.d ty.sz (vs.toList.map .sc) fd.offset
    | _ => none
  | none => none
def aindexAddr (P : Program) (t : TypeId) (x i : AV) : Option AV :=
  match i with
  | .sc (.int _ i) => match aslice0 P t, x with
    | some (_, ty), .vs n xs => if 0 ≤ i ∧ i < n ∧ i.toNat * ty.sz < xs.length then some (.vp (xs.drop (i.toNat * ty.sz))) else none
    | some (_, ty), .hs k g off n z => if 0 ≤ i ∧ i < n ∧ z = ty.sz then some (.hp k g (off + i.toNat * z)) else none
    | none, .hp k g off => match tyOf P t with
      | some ⟨.array n e, _, _, _⟩ => match tyOf P e with
        | some ty => if 0 ≤ i ∧ i < n then some (.hp k g (off + i.toNat * ty.sz)) else none
        | none => none
      | _ => none
    | none, .vp xs => match tyOf P t with
      | some ⟨.array n e, _, _, _⟩ => match tyOf P e with
        | some ty => if 0 ≤ i ∧ i < n ∧ i.toNat * ty.sz < xs.length then some (.vp (xs.drop (i.toNat * ty.sz))) else none
        | none => none
      | _ => none
    | _, _ => none
  | _ => none
def aindex (P : Program) (t : TypeId) (x i : AV) : Option AV :=
  match i with
  | .sc (.int _ i) => match tyOf P t, x with
    | some ⟨.string, _, _, _⟩, .sc (.string s) => if 0 ≤ i ∧ i < s.size then some (.sc (.int .u8 (s.data.toList.getD i.toNat 0).toNat)) else none
    | some ⟨.array n e, _, _, _⟩, .agg cs => match tyOf P e with
      | some ty => if 0 ≤ i ∧ i < n then acut ty.d ty.sz cs (i.toNat * ty.sz) else none
      | none => none
    | _, _ => none
  | _ => none
def aextract (x : AV) (i : Nat) : Option AV :=
  match x with
  | .tup cs => cs[i]?
  | .sc (.tuple vs) => vs.toList[i]?.map .sc
  | _ => none
def aappend (P : Program) (B : Nat) (dst : Option Tmp) (h : Nat → AV) (t : TypeId) (s x : AV) : Option Eff :=
  match aslice0 P t, alen x, arow h x with
  | some (_, ⟨_, sz, some z, by_⟩), some m, some news =>
    if z.length = sz ∧ news.length = m * sz ∧ 1 ≤ by_ ∧ 1 ≤ sz then
      if m = 0 then (match s with
        | .hs .. | .sc (.slice none 0 0) => some (s, [])
        | _ => none)
      else match s with
        | .sc (.slice none 0 0) => if m * by_ ≤ 140737488355328 then anew B dst h (fun k g => .hs k g 0 m sz) news else none
        | .hs k g 0 n z => match h k with
          | .blk g' 2 cs => if g' = g ∧ z = sz ∧ n * z = cs.length ∧ (n + m) * by_ ≤ 140737488355328 ∧ news.all AV.one = true then some (.hs k (g + 1) 0 (n + m) z, [(k, .blk (g + 1) 2 (cs ++ news))]) else none
          | _ => none
        | _ => none
    else none
  | _, _, _ => none
def acopy (P : Program) (h : Nat → AV) (t : TypeId) (d x : AV) : Option Eff :=
  match aslice0 P t, alen x, arow h x, d with
  | some (_, ty), some m, some news, .hs k g off n z => match h k with
    | .blk g' 2 cs => if g' = g ∧ z = ty.sz ∧ news.length = m * z ∧ off + n * z ≤ cs.length ∧ news.all AV.one = true then
        some (.sc (.int .i64 (min m n : Nat)), [(k, .blk g 2 (setAt cs off (news.take (min m n * z))))]) else none
    | _ => none
  | _, _, _, _ => none
def abuiltin (P : Program) (B : Nat) (dst : Option Tmp) (h : Nat → AV) (b : Builtin) (ts : List TypeId) (as : List AV) : Option Eff :=
  match b, ts, as with
  | .len, [t], [x] => match tyOf P t, x with
    | some ⟨.string, _, _, _⟩, .sc (.string s) => some (.sc (.int .i64 s.size), [])
    | some ⟨.slice _, _, _, _⟩, .vs n _ => some (.sc (.int .i64 n), [])
    | some ⟨.slice _, _, _, _⟩, .hs _ _ _ n _ => some (.sc (.int .i64 n), [])
    | some ⟨.slice _, _, _, _⟩, .sc (.slice _ n _) => some (.sc (.int .i64 n), [])
    | _, _ => none
  | .append, [t, t'], [s, x] => if t = t' then aappend P B dst h t s x else none
  | .copy, [t, t'], [d, x] => if t = t' then acopy P h t d x else none
  | .max, [_, _], [.sc (.int k m), .sc (.int k' n)] => if k = k' then some (.sc (.int k (if m < n then n else m)), []) else none
  | .min, [_, _], [.sc (.int k m), .sc (.int k' n)] => if k = k' then some (.sc (.int k (if n < m then n else m)), []) else none
  | _, _, _ => none
def aeff (P : Program) (B : Nat) (op : Op) (dst : Option Tmp) (ρ : Operand → AV) (h : Nat → AV) : Option Eff :=
  match op with
  | .move x | .assign x => some (ρ x, [])
  | .pick c a b => match ρ c with
    | .sc (.bool t) => some (if t then ρ a else ρ b, [])
    | _ => none
  | .alloc t => match tyOf P t with
    | some ⟨_, _, some z, _⟩ => anew B dst h (fun k g => .hp k g 0) (z.map .sc)
    | _ => none
  | .box _ x => anew B dst h (fun k g => .hp k g 0) (ρ x).cellsA
  | .build t ps => (abuild P t (ps.toList.map fun p => (p.1, ρ p.2))).map fun v => (v, [])
  | .buildSlice t n ps => abuildSlice P B dst h t n (ps.toList.map fun p => (p.1, ρ p.2))
  | .load t x => (aload P t (ρ x) h).map fun v => (v, [])
  | .store t x v => astore P t (ρ x) (ρ v) h
  | .binOp op t x y _ => (abin P op t x y (ρ x) (ρ y)).map fun v => (v, [])
  | .unOp op _ x => (aun P op (ρ x)).map fun v => (v, [])
  | .convert s t x => aconv P B dst h s t (ρ x)
  | .makeSlice t l c => amake P B dst h t (ρ l) (ρ c)
  | .slice t x lo hi mx => (aslice P t (ρ x) (lo.map ρ) (hi.map ρ) (mx.map ρ) h).map fun v => (v, [])
  | .fieldAddr t x f => (afieldAddr P t (ρ x) f).map fun v => (v, [])
  | .field t x f => (afield P t (ρ x) f).map fun v => (v, [])
  | .indexAddr t x i => (aindexAddr P t (ρ x) (ρ i)).map fun v => (v, [])
  | .index t x i => (aindex P t (ρ x) (ρ i)).map fun v => (v, [])
  | .extract x i => (aextract (ρ x) i).map fun v => (v, [])
  | .call ⟨.builtin b, as, ts⟩ => abuiltin P B dst h b ts.toList (as.toList.map ρ)
  | _ => none
end Go.Ab
end
section
namespace Go.Ab
open Go
def Sub (h : Nat → AV) (s : S) : Prop := ∀ k g st cs, h k = .blk g st cs → s (.h k) = .blk g st cs
theorem setCells_heap (b : Nat) (e : TypeId) (f : Nat × Nat) : ∀ (vs : List Value) (o : Nat) (w : World) (arr : Array Value), w.heap[b]? = some (.cells arr e f) →
    ∃ arr', (w.setCells b o vs).heap[b]? = some (.cells arr' e f) ∧ arr'.size = arr.size ∧
      (∀ i, arr'[i]? = if o ≤ i ∧ i < o + vs.length ∧ i < arr.size then vs[i - o]? else arr[i]?) ∧
      (∀ b', b' ≠ b → (w.setCells b o vs).heap[b']? = w.heap[b']?) ∧ (w.setCells b o vs).heap.size = w.heap.size ∧
      (w.setCells b o vs).os = w.os ∧ (w.setCells b o vs).tape = w.tape ∧ (w.setCells b o vs).output = w.output
  | [], o, w, arr, h => ⟨arr, h, rfl, fun i => by rw [if_neg (by simp; omega)], fun _ _ => rfl, rfl, rfl, rfl, rfl⟩
  | v :: vs, o, w, arr, h => by
    have h1 : (w.setCell ⟨b, o, none⟩ v).heap[b]? = some (.cells (arr.setIfInBounds o v) e f) := by
      simp [World.setCell, Array.getElem?_modify, h]
    obtain ⟨arr', h2, h3, h4, h5, h6, h7, h8, h9⟩ := setCells_heap b e f vs (o + 1) (w.setCell ⟨b, o, none⟩ v) _ h1
    refine ⟨arr', h2, by simpa using h3, fun i => ?_, fun b' hb => ?_, ?_, h7, h8, h9⟩
    · rw [h4]
      simp only [Array.size_setIfInBounds, List.length_cons]
      by_cases e1 : o + 1 ≤ i ∧ i < o + 1 + vs.length ∧ i < arr.size
      · rw [if_pos e1, if_pos (by omega), show i - o = (i - (o + 1)) + 1 by omega]
        simp
      · rw [if_neg e1, Array.getElem?_setIfInBounds]
        by_cases e2 : o = i
        · subst e2
          by_cases e3 : o < arr.size
          · rw [if_pos rfl, if_pos e3, if_pos (by omega)]; simp
          · rw [if_pos rfl, if_neg e3, if_neg (by omega), Array.getElem?_eq_none (by omega)]
        · rw [if_neg e2, if_neg (by omega)]
    · rw [World.setCells, h5 b' hb]
      simp [World.setCell, Array.getElem?_modify, Ne.symm hb]
    · rw [World.setCells, h6]
      simp [World.setCell]
theorem setAt_length : ∀ (cs : List AV) (i : Nat) (vs : List AV), (setAt cs i vs).length = cs.length
  | cs, i, [] => rfl
  | cs, i, v :: vs => by rw [setAt, setAt_length]; simp
theorem setAt_get : ∀ (cs : List AV) (o : Nat) (vs : List AV) (i : Nat), (setAt cs o vs)[i]? = if o ≤ i ∧ i < o + vs.length ∧ i < cs.length then vs[i - o]? else cs[i]?
  | cs, o, [], i => by rw [if_neg (by simp; omega)]; rfl
  | cs, o, v :: vs, i => by
    rw [setAt, setAt_get]
    simp only [List.length_set, List.length_cons]
    by_cases e1 : o + 1 ≤ i ∧ i < o + 1 + vs.length ∧ i < cs.length
    · rw [if_pos e1, if_pos (by omega), show i - o = (i - (o + 1)) + 1 by omega]
      simp
    · rw [if_neg e1, List.getElem?_set]
      by_cases e2 : o = i
      · subst e2
        by_cases e3 : o < cs.length
        · rw [if_pos rfl, if_pos e3, if_pos (by omega)]; simp
        · rw [if_pos rfl, if_neg e3, if_neg (by omega)]
          rw [List.getElem?_eq_none (by omega)]
      · rw [if_neg e2, if_neg (by omega)]
def appH (s : S) (ups : List (Nat × AV)) : S := app s (ups.map fun p => (.h p.1, p.2))
theorem appH_nil (s : S) : appH s [] = s := rfl
theorem appH_one (s : S) (k : Nat) (x : AV) : appH s [(k, x)] = upd s (.h k) x := rfl
theorem appH_t : ∀ (s : S) (ups : List (Nat × AV)) (i : Nat), appH s ups (.t i) = s (.t i)
  | s, [], i => rfl
  | s, (k, x) :: ups, i => by
    have := appH_t (upd s (.h k) x) ups i
    simpa [appH, app_cons, upd] using this
section
variable {P : Program} {F : Nat → Prop} {s : S} {μ : Mu} {a : Act} {w : World}
theorem ev_rep (sim : Sim F s μ a w) (x : Operand) : Rep w μ (Mof F s μ) (ev s x) (a.eval x) := by
  cases x with
  | tmp t => exact sim.tm t
  | const v => simp [ev, Act.eval, Rep]
  | global g =>
    simp only [ev, Act.eval, tabAV]
    split
    · rename_i vs h
      obtain ⟨h1, h2, h3, h4, _⟩ := sim.tb.1 _ (tabAt_mem h)
      simp only [Rep]
      refine ⟨g, 0, rfl, h1, h2, Row.of_get fun i x hx => ?_⟩
      rw [List.getElem?_map] at hx
      cases hi : vs[i]? with
      | none => rw [hi] at hx; cases hx
      | some u =>
        rw [hi] at hx
        cases hx
        exact ⟨h3 u (List.mem_of_getElem? hi), u, by rw [Nat.zero_add]; exact h4 i u hi, by simp [Rep]⟩
    · simp [Rep]
  | func f => simp [ev, Act.eval, Rep]
structure Out (P : Program) (F : Nat → Prop) (s : S) (μ : Mu) (w : World) (ups : List (Nat × AV)) (v : AV) (u : Value) (w' : World) : Prop where
  out : ∃ μ', Rep w' μ' (Mof F (appH s ups) μ') v u ∧ Hp F (appH s ups) μ' w' ∧ Step s μ w (appH s ups) μ' w'
theorem Out.pure (hp : Hp F s μ w) {v : AV} {u : Value} (h : Rep w μ (Mof F s μ) v u) : Out P F s μ w [] v u w := ⟨μ, h, hp, Step.refl s μ w⟩
theorem anew_out (hp : Hp F s μ w) {B : Nat} {dst : Option Tmp} {h : Nat → AV} (hh : ∀ d, dst = some d → h (B + d) = s (.h (B + d))) {mk : Nat → Nat → AV} {cs : List AV} {v : AV} {ups : List (Nat × AV)}
    (he : anew B dst h mk cs = some (v, ups)) (arr : Array Value) (e : TypeId) (f : Nat × Nat) (hl : cs.length ≤ arr.size) (hf : ∀ o, o < arr.size → ¬ (f.1 ≤ o ∧ o < f.2))
    (hr : ∀ (i : Nat) (x : AV), cs[i]? = some x → ∃ u, arr[i]? = some u ∧ Rep w μ (Mof F s μ) x u) {w' : World} (hw : w'.heap = w.heap.push (.cells arr e f)) (ho : w'.os = w.os) (ht : w'.tape = w.tape) (hout : w'.output = w.output)
    {u : Value} (hu : ∀ k g (μ' : Mu) M, μ' k g = some (w.heap.size, cs.length, arr.size) → Rep w' μ' M (mk k g) u) : Out P F s μ w ups v u w' := by
  unfold anew at he
  split at he
  · cases he
  · rename_i d
    obtain ⟨g, st, cs0, hs⟩ := hp.isb (B + d)
    have hg : genOf (h (B + d)) = g := by rw [hh d rfl, hs]; rfl
    rw [hg] at he
    split at he
    · rename_i hone
      cases he
      · skip
        let μ' : Mu := fun k1 g1 => if k1 = B + d ∧ g1 = g + 1 then some (w.heap.size, cs.length, arr.size) else μ k1 g1
        have hnew : μ' (B + d) (g + 1) = some (w.heap.size, cs.length, arr.size) := by simp [μ']
        have hsz : w'.heap.size = w.heap.size + 1 := by rw [hw]; simp
        have hcell : w'.heap[w.heap.size]? = some (.cells arr e f) := by rw [hw]; simp
        obtain ⟨h1, h2⟩ := hp.upd (μ' := μ') (w' := w') (B + d) g st cs0 hs (g + 1) 2 cs w.heap.size arr.size (by omega)
          (fun k1 g1 hne => by simp only [μ']; rw [if_neg hne]) hnew (fun e => by omega) (.inl (Nat.le_refl _)) (by omega) ho ht hout (by omega)
          (fun b hb _ => by rw [hw, Array.getElem?_push, if_neg (by omega)])
          (fun up _ => ⟨arr, e, f, hcell, rfl, hl, hf, fun i x hx => by
            obtain ⟨u, h3, h4⟩ := hr i x hx
            exact ⟨by simp only [List.all_eq_true] at hone; exact hone x (List.mem_of_getElem? hx), u, h3, Rep.mono up _ _ h4⟩⟩)
        exact ⟨μ', hu _ _ _ _ hnew, h1, h2⟩
    · cases he
theorem store_out (hp : Hp F s μ w) {k g : Nat} {cs : List AV} (hs : s (.h k) = .blk g 2 cs) (off : Nat) (vs : List AV) (us : List Value) (hoff : off + vs.length ≤ cs.length) (hone : ∀ x ∈ vs, x.one = true)
    (hr : RepL w μ (Mof F s μ) vs us) : ∃ c L A, μ k g = some (c, L, A) ∧ (∀ j, j < us.length → (w.cell? ⟨c, off + j, none⟩).isSome = true) ∧ (∀ j, j < us.length → w.frozen? ⟨c, off + j, none⟩ = false) ∧ (∀ v ∈ us, oneV v = true) ∧
      ∀ (v : AV) (u : Value), (∀ w', Rep w' μ (Mof F (appH s [(k, .blk g 2 (setAt cs off vs))]) μ) v u) → Out P F s μ w [(k, .blk g 2 (setAt cs off vs))] v u (w.setCells c off us) := by
  obtain ⟨c, A, arr, e, f, h1, h2, h3, h4, h5, h6⟩ := hp.row k g 2 cs hs (by decide)
  have hlen := RepL.length hr
  refine ⟨c, cs.length, A, h1, fun j hj => ?_, fun j hj => ?_, fun v hv => ?_, fun v u hv => ?_⟩
  · simp only [World.cell?, h2]
    have : off + j < arr.size := by omega
    simp [this]
  · simp only [World.frozen?, h2]
    have := h5 (off + j) (by omega)
    simp only [Bool.and_eq_false_iff, decide_eq_false_iff_not]
    omega
  · obtain ⟨i, hi⟩ := List.getElem?_of_mem hv
    have hil : i < vs.length := by have := (List.getElem?_eq_some_iff.1 hi).1; omega
    obtain ⟨u', h7, h8⟩ := RepL.get hr i vs[i] (List.getElem?_eq_getElem hil)
    rw [hi] at h7
    cases h7
    exact Rep.one h8 (hone _ (List.getElem_mem hil))
  · obtain ⟨arr', g1, g2, g3, g4, g5, g6, g7, g8⟩ := setCells_heap c e f us off w arr h2
    obtain ⟨k1, k2⟩ := hp.upd (μ' := μ) (w' := w.setCells c off us) k g 2 cs hs g 2 (setAt cs off vs) c A (Nat.le_refl _) (fun _ _ _ => rfl) (by rw [setAt_length]; exact h1) (fun _ => rfl)
      (.inr ⟨cs.length, A, by decide, h1, fun _ => rfl⟩) (by rw [g5]; exact (hp.old _ _ _ _ _ h1).1) g6 g7 g8 (by omega)
      (fun b hb hne => g4 b fun e => hne ⟨rfl, cs.length, A, by rw [e]; exact h1⟩)
      (fun up _ => ⟨arr', e, f, g1, by omega, by rw [setAt_length]; exact h4, h5, fun i x hx => by
        rw [setAt_get] at hx
        rw [g3]
        split at hx
        · rename_i hi
          rw [if_pos (by omega)]
          obtain ⟨u', h7, h8⟩ := RepL.get hr _ _ hx
          exact ⟨hone x (List.mem_of_getElem? hx), u', h7, Rep.mono up _ _ h8⟩
        · rename_i hi
          have hic := (List.getElem?_eq_some_iff.1 hx).1
          rw [if_neg (by omega)]
          obtain ⟨h7, u', h8, h9⟩ := h6 i x hx
          exact ⟨h7, u', h8, Rep.mono up _ _ h9⟩⟩)
    exact ⟨μ, hv _, k1, k2⟩
end
end Go.Ab
end
section
namespace Go.Ab
open Go
theorem tyOf_spec {P : Program} {t : TypeId} {ty : Ty} (h : tyOf P t = some ty) : ∃ i, P.underlying t = some ty.d ∧ P.info? t = some i ∧ i.size = ty.sz ∧ i.zero.map (·.cells.toList) = ty.z ∧ i.bytes = ty.by_ := by
  unfold tyOf at h
  split at h
  · rename_i d i h1 h2
    cases h
    exact ⟨i, h1, h2, rfl, rfl, rfl⟩
  · cases h
theorem aslice0_spec {P : Program} {t e : TypeId} {ty : Ty} (h : aslice0 P t = some (e, ty)) : P.underlying t = some (.slice e) ∧ tyOf P e = some ty := by
  unfold aslice0 at h
  split at h
  · rename_i e' _ _ _ h1
    obtain ⟨i, h2, _⟩ := tyOf_spec h1
    cases he : tyOf P e' with
    | none => rw [he] at h; simp at h
    | some ty' =>
      rw [he] at h
      simp at h
      obtain ⟨rfl, rfl⟩ := h
      exact ⟨h2, he⟩
  · cases h
section
variable {P : Program} {F : Nat → Prop} {s : S} {μ : Mu} {a : Act} {w : World} {M : Nat → Prop}
theorem RepL_sc : ∀ (vs : List Value), RepL w μ M (vs.map .sc) vs
  | [] => by simp [RepL]
  | v :: vs => by simp only [List.map_cons, RepL]; exact ⟨by simp [Rep], RepL_sc vs⟩
theorem cells_rep {x : AV} {v : Value} (h : Rep w μ M x v) : RepL w μ M x.cellsA v.cells.toList := by
  cases x with
  | sc u => simp only [Rep] at h; subst h; exact RepL_sc _
  | agg cs => simp only [Rep] at h; obtain ⟨vs, rfl, h2⟩ := h; exact h2
  | vs n xs =>
    have h0 := h
    simp only [Rep] at h; obtain ⟨_, _, rfl, _⟩ := h
    simp only [AV.cellsA, Value.cells, RepL]; exact ⟨h0, trivial⟩
  | hs k g o n z =>
    have h0 := h
    simp only [Rep] at h; obtain ⟨_, _, _, _, _, rfl, _⟩ := h
    simp only [AV.cellsA, Value.cells, RepL]; exact ⟨h0, trivial⟩
  | hp k g o =>
    have h0 := h
    simp only [Rep] at h; obtain ⟨_, _, _, _, rfl⟩ := h
    simp only [AV.cellsA, Value.cells, RepL]; exact ⟨h0, trivial⟩
  | vp xs =>
    have h0 := h
    simp only [Rep] at h; obtain ⟨_, _, rfl, _⟩ := h
    simp only [AV.cellsA, Value.cells, RepL]; exact ⟨h0, trivial⟩
  | tup cs =>
    have h0 := h
    simp only [Rep] at h; obtain ⟨_, rfl, _⟩ := h
    simp only [AV.cellsA, Value.cells, RepL]; exact ⟨h0, trivial⟩
  | blk _ _ _ => simp [Rep] at h
theorem RepL.getR : ∀ {xs : List AV} {vs : List Value}, RepL w μ M xs vs → ∀ (i : Nat) (x : AV) (v : Value), xs[i]? = some x → vs[i]? = some v → Rep w μ M x v := by
  intro xs vs h i x v hx hv
  obtain ⟨v', h1, h2⟩ := RepL.get h i x hx
  rw [hv] at h1
  cases h1
  exact h2
def Ran (P : Program) (F : Nat → Prop) (s : S) (μ : Mu) (a : Act) (w : World) (o : Oper) (v : AV) (ups : List (Nat × AV)) : Prop :=
  ∃ n u w', (execOp a.eval o).run P w = .ok n w' ∧ (n = .value u ∨ n = .skip ∧ u = undef) ∧ Out P F s μ w ups v u w'
theorem Ran.quiet (hp : Hp F s μ w) {o : Oper} {v : AV} (u : Value) (hr : (execOp a.eval o).run P w = .ok (.value u) w) (h : Rep w μ (Mof F s μ) v u) : Ran P F s μ a w o v [] :=
  ⟨_, u, w, hr, .inl rfl, Out.pure hp h⟩
theorem ran_move (sim : Sim F s μ a w) {o : Oper} {x : Operand} (ho : o.op = .move x ∨ o.op = .assign x) : Ran P F s μ a w o (ev s x) [] :=
  Ran.quiet sim.hp (a.eval x) (by rcases ho with ho | ho <;> simp [execOp, ho]) (ev_rep sim x)
theorem ran_pick (sim : Sim F s μ a w) {o : Oper} {c x y : Operand} {t : Bool} (ho : o.op = .pick c x y) (hc : ev s c = .sc (.bool t)) : Ran P F s μ a w o (if t then ev s x else ev s y) [] := by
  have h := ev_rep sim c
  rw [hc] at h
  simp only [Rep] at h
  refine Ran.quiet sim.hp (if t then a.eval x else a.eval y) ?_ ?_
  · simp [execOp, ho, h, asBool]
  · cases t
    · exact ev_rep sim y
    · exact ev_rep sim x
theorem zip_cells : ∀ (cs : List Value) (off n : Nat) (arr : Array Value), ((cs.zipIdx n).foldl (fun cs (p : Value × Nat) => cs.setIfInBounds (off + p.2) p.1) arr).size = arr.size ∧
    ∀ i : Nat, ((cs.zipIdx n).foldl (fun cs (p : Value × Nat) => cs.setIfInBounds (off + p.2) p.1) arr)[i]? = if off + n ≤ i ∧ i < off + n + cs.length ∧ i < arr.size then cs[i - (off + n)]? else arr[i]?
  | [], off, n, arr => ⟨rfl, fun i => by rw [if_neg (by simp; omega)]; rfl⟩
  | c :: cs, off, n, arr => by
    obtain ⟨h1, h2⟩ := zip_cells cs off (n + 1) (arr.setIfInBounds (off + n) c)
    simp only [List.zipIdx_cons, List.foldl_cons]
    refine ⟨by rw [h1]; simp, fun i => ?_⟩
    rw [h2]
    simp only [Array.size_setIfInBounds, List.length_cons]
    by_cases e1 : off + (n + 1) ≤ i ∧ i < off + (n + 1) + cs.length ∧ i < arr.size
    · rw [if_pos e1, if_pos (by omega), show i - (off + n) = (i - (off + (n + 1))) + 1 by omega]
      simp
    · rw [if_neg e1, Array.getElem?_setIfInBounds]
      by_cases e2 : off + n = i
      · subst e2
        by_cases e3 : off + n < arr.size
        · rw [if_pos rfl, if_pos e3, if_pos (by omega)]; simp
        · rw [if_pos rfl, if_neg e3, if_neg (by omega), Array.getElem?_eq_none (by omega)]
      · rw [if_neg e2, if_neg (by omega)]
theorem fill_rep (place : Nat → Option (Nat × Nat)) : ∀ (parts : List (Nat × AV)) (pv : List (Nat × Value)) (cs cs' : List AV) (arr : Array Value), RepL w μ M cs arr.toList →
    (parts.length = pv.length ∧ ∀ (j : Nat) (p : Nat × AV) (q : Nat × Value), parts[j]? = some p → pv[j]? = some q → p.1 = q.1 ∧ Rep w μ M p.2 q.2) → afill place cs parts = some cs' →
    ∃ arr', Instr.fill place arr pv = some arr' ∧ RepL w μ M cs' arr'.toList
  | [], [], cs, cs', arr, h, _, he => by
    simp only [afill, Option.some.injEq] at he
    subst he
    exact ⟨arr, rfl, h⟩
  | (i, x) :: parts, (j, v) :: pv, cs, cs', arr, h, hp, he => by
    obtain ⟨hi, hx⟩ := hp.2 0 (i, x) (j, v) (by simp) (by simp)
    simp only at hi hx
    subst hi
    have hc := cells_rep hx
    have hlc := RepL.length hc
    have hla := RepL.length h
    simp only [afill] at he
    simp only [Instr.fill]
    split at he
    · cases he
    · rename_i off size hpl
      split at he
      · rename_i hcond
        obtain ⟨h1, h2⟩ := hcond
        rw [hpl]
        simp only
        have hsz : v.cells.size = size := by rw [← h1, hlc]; simp
        rw [if_neg (by simp at hla; simp [hsz]; omega)]
        refine fill_rep place parts pv _ cs' _ ?_ ⟨by simpa using hp.1, fun j p q h3 h4 => hp.2 (j + 1) p q (by simpa using h3) (by simpa using h4)⟩ he
        have hz := zip_cells v.cells.toList off 0 arr
        have hfold : (v.cells.zipIdx.foldl (fun cs (p : Value × Nat) => cs.setIfInBounds (off + p.2) p.1) arr) = (v.cells.toList.zipIdx.foldl (fun cs (p : Value × Nat) => cs.setIfInBounds (off + p.2) p.1) arr) := by
          rw [← Array.foldl_toList, Array.toList_zipIdx]
        refine RepL.of_get ?_ fun i y u hy hu => ?_
        · rw [setAt_length, hla]
          show arr.toList.length = (v.cells.zipIdx.foldl (fun cs (p : Value × Nat) => cs.setIfInBounds (off + p.2) p.1) arr).toList.length
          rw [hfold]
          simp [hz.1]
        · have hu' : (v.cells.toList.zipIdx.foldl (fun cs (p : Value × Nat) => cs.setIfInBounds (off + p.2) p.1) arr)[i]? = some u := by
            rw [← hfold]; simpa using hu
          rw [hz.2] at hu'
          rw [setAt_get] at hy
          simp only [Nat.add_zero] at hu'
          have hl3 : cs.length = arr.size := by simpa using hla
          by_cases e : off ≤ i ∧ i < off + x.cellsA.length ∧ i < cs.length
          · rw [if_pos e] at hy
            rw [if_pos (by omega)] at hu'
            exact RepL.getR hc _ _ _ hy hu'
          · rw [if_neg e] at hy
            rw [if_neg (by omega)] at hu'
            exact RepL.getR h _ _ _ hy (by simpa using hu')
      · cases he
  | [], _ :: _, _, _, _, _, h, _ => by simp at h
  | _ :: _, [], _, _, _, _, h, _ => by simp at h
theorem parts_rep (sim : Sim F s μ a w) (ps : List (Nat × Operand)) : (ps.map fun p => (p.1, ev s p.2)).length = (ps.map fun p => (p.1, a.eval p.2)).length ∧
    ∀ (j : Nat) (p : Nat × AV) (q : Nat × Value), (ps.map fun p => (p.1, ev s p.2))[j]? = some p → (ps.map fun p => (p.1, a.eval p.2))[j]? = some q → p.1 = q.1 ∧ Rep w μ (Mof F s μ) p.2 q.2 := by
  refine ⟨by simp, fun j p q h1 h2 => ?_⟩
  simp only [List.getElem?_map] at h1 h2
  cases h : ps[j]? with
  | none => rw [h] at h1; simp at h1
  | some r =>
    rw [h] at h1 h2
    simp only [Option.map_some, Option.some.injEq] at h1 h2
    subst h1 h2
    exact ⟨rfl, ev_rep sim _⟩
theorem run_sizeOf' {t : TypeId} {ty : Ty} (h : tyOf P t = some ty) (w : World) : (sizeOf t).run P w = .ok ty.sz w := by
  obtain ⟨i, _, h2, h3, _⟩ := tyOf_spec h
  simp [sizeOf, typeInfo, h2, h3]
theorem places_ok : ∀ (fs : List Field) (l : List (Nat × Nat)), placesOf P fs = some l → ∀ w : World, (fs.mapM (fun f => do pure (f.offset, ← sizeOf f.type) : Field → Sem (Nat × Nat))).run P w = .ok l w
  | [], l, h, w => by simp [placesOf] at h; subst h; simp
  | f :: fs, l, h, w => by
    simp only [placesOf] at h
    split at h
    · rename_i ty l' h1 h2
      cases h
      have := places_ok fs l' h2 w
      simp [List.mapM_cons, run_sizeOf' h1] at this ⊢
      simp [this]
    · cases h
end
end Go.Ab
end
section
namespace Go.Ab
open Go
section
variable {P : Program} {F : Nat → Prop} {s : S} {μ : Mu} {a : Act} {w : World} {B : Nat} {h : Nat → AV} {v : AV} {ups : List (Nat × AV)}
def Own (B : Nat) (dst : Option Tmp) (h : Nat → AV) (s : S) : Prop := ∀ d, dst = some d → h (B + d) = s (.h (B + d))
theorem anew_all {dst : Option Tmp} {mk : Nat → Nat → AV} {cs : List AV} (he : anew B dst h mk cs = some (v, ups)) : ∀ x ∈ cs, x.one = true := by
  unfold anew at he
  split at he
  · cases he
  · split at he
    · rename_i hone
      simpa using hone
    · cases he
theorem hs_new {M : Nat → Prop} {w' : World} {μ' : Mu} {k g c n z L A cap : Nat} (h : μ' k g = some (c, L, A)) (h1 : n ≤ cap) (h2 : n * z ≤ L) (h3 : L ≤ cap * z) (h4 : cap * z ≤ A) : Rep w' μ' M (.hs k g 0 n z) (.slice (some ⟨c, 0, none⟩) n cap) := by
  simp only [Rep]
  exact ⟨c, L, A, cap, h, rfl, h1, by omega, by omega, by omega⟩
theorem hp_new {M : Nat → Prop} {w' : World} {μ' : Mu} {k g c L A : Nat} (h : μ' k g = some (c, L, A)) : Rep w' μ' M (.hp k g 0) (.pointer (some ⟨c, 0, none⟩)) := by
  simp only [Rep]
  exact ⟨c, L, A, h, rfl⟩
theorem nofreeze {n : Nat} : ∀ o, o < n → ¬ (((0, 0) : Nat × Nat).1 ≤ o ∧ o < ((0, 0) : Nat × Nat).2) := by
  intro o _ hh
  simp at hh
theorem ran_alloc (sim : Sim F s μ a w) {o : Oper} (hh : Own B o.dst h s) {t : TypeId} (ho : o.op = .alloc t) (he : aeff P B o.op o.dst (ev s) h = some (v, ups)) : Ran P F s μ a w o v ups := by
  rw [ho] at he
  simp only [aeff] at he
  split at he
  · rename_i d sz z b hty
    obtain ⟨i, h1, h2, h3, h4, h5⟩ := tyOf_spec hty
    simp only [Option.map_eq_some_iff] at h4
    obtain ⟨zv, h6, h7⟩ := h4
    refine ⟨.value (.pointer (some ⟨w.heap.size, 0, none⟩)), _, w.alloc (.cells zv.cells t), ?_, .inl rfl, ?_⟩
    · simp [execOp, ho, Instr.alloc, zeroValue, typeInfo, h2, h6, newVar, newRow]
    · refine anew_out sim.hp hh he zv.cells t (0, 0) (by rw [← h7]; simp) nofreeze ?_ (by rfl) (by rfl) (by rfl) (by rfl) fun k g μ' M hm => hp_new hm
      intro j x hx
      rw [← h7] at hx
      rw [List.getElem?_map] at hx
      cases hj : zv.cells.toList[j]? with
      | none => rw [hj] at hx; simp at hx
      | some u =>
        rw [hj] at hx
        simp at hx
        subst hx
        exact ⟨u, by simpa using hj, by simp [Rep]⟩
  · cases he
theorem ran_box (sim : Sim F s μ a w) {o : Oper} (hh : Own B o.dst h s) {t : TypeId} {x : Operand} (ho : o.op = .box t x) (he : aeff P B o.op o.dst (ev s) h = some (v, ups)) : Ran P F s μ a w o v ups := by
  rw [ho] at he
  simp only [aeff] at he
  have hr := cells_rep (ev_rep sim x)
  have hl := RepL.length hr
  refine ⟨.value (.pointer (some ⟨w.heap.size, 0, none⟩)), _, w.alloc (.cells (a.eval x).cells t), ?_, .inl rfl, ?_⟩
  · simp [execOp, ho, Instr.box, newVar, newRow]
  · refine anew_out sim.hp hh he (a.eval x).cells t (0, 0) (by simp at hl; omega) nofreeze ?_ (by rfl) (by rfl) (by rfl) (by rfl) fun k g μ' M hm => hp_new hm
    intro j y hy
    obtain ⟨u, h1, h2⟩ := RepL.get hr j y hy
    exact ⟨u, by simpa using h1, h2⟩
theorem ran_build (sim : Sim F s μ a w) {o : Oper} {t : TypeId} {ps : Array (Nat × Operand)} (ho : o.op = .build t ps) (he : aeff P B o.op o.dst (ev s) h = some (v, ups)) : Ran P F s μ a w o v ups := by
  rw [ho] at he
  simp only [aeff, Option.map_eq_some_iff] at he
  obtain ⟨v', hb, hv⟩ := he
  cases hv
  have hps : (ps.map fun p => (p.1, a.eval p.2)).toList = ps.toList.map fun p => (p.1, a.eval p.2) := by simp
  unfold abuild at hb
  split at hb
  · rename_i fs sz z b hty
    obtain ⟨i, h1, h2, h3, h4, h5⟩ := tyOf_spec hty
    simp only [Option.map_eq_some_iff] at h4
    obtain ⟨zv, h6, h7⟩ := h4
    split at hb
    · rename_i l hl
      simp only [Option.map_eq_some_iff] at hb
      obtain ⟨cs', hf, rfl⟩ := hb
      obtain ⟨arr', h8, h9⟩ := fill_rep (w := w) (μ := μ) (M := Mof F s μ) (l[·]?) _ _ (z.map .sc) cs' zv.cells (by rw [← h7]; exact RepL_sc _) (parts_rep sim ps.toList) hf
      have hpl := places_ok fs.toList l hl w
      refine Ran.quiet sim.hp (.agg arr') ?_ (by simp only [Rep]; exact ⟨arr', rfl, h9⟩)
      have hpl' : (fs.mapM (fun f => do pure (f.offset, ← sizeOf f.type) : Field → Sem (Nat × Nat))).run P w = .ok l.toArray w := by
        rw [← Array.toArray_toList (xs := fs), List.mapM_toArray]
        simp at hpl ⊢
        simp [hpl]
      simp at hpl'
      rw [← hps] at h8
      simp at h8
      simp [execOp, ho, Instr.build, zeroValue, typeInfo, h2, h6, run_underlying h1, hpl', h8]
    · cases hb
  · rename_i n e sz z b hty
    obtain ⟨i, h1, h2, h3, h4, h5⟩ := tyOf_spec hty
    simp only [Option.map_eq_some_iff] at h4
    obtain ⟨zv, h6, h7⟩ := h4
    split at hb
    · rename_i ty hl
      simp only [Option.map_eq_some_iff] at hb
      obtain ⟨cs', hf, rfl⟩ := hb
      obtain ⟨arr', h8, h9⟩ := fill_rep (w := w) (μ := μ) (M := Mof F s μ) _ _ _ (z.map .sc) cs' zv.cells (by rw [← h7]; exact RepL_sc _) (parts_rep sim ps.toList) hf
      refine Ran.quiet sim.hp (.agg arr') ?_ (by simp only [Rep]; exact ⟨arr', rfl, h9⟩)
      rw [← hps] at h8
      simp at h8
      simp [execOp, ho, Instr.build, zeroValue, typeInfo, h2, h6, run_underlying h1, run_sizeOf' hl, h8]
    · cases hb
  · cases hb
theorem zrow_get {n : Nat} {z : Array Value} (i : Nat) (x : AV) (hx : (zrow n z.toList)[i]? = some x) : i < n * z.size ∧ x = .sc (z[i % z.size]!) := by
  unfold zrow at hx
  split at hx
  · rename_i h1
    have h2 : z.size = 1 := by simpa using h1
    rw [List.getElem?_replicate] at hx
    split at hx
    · cases hx
      refine ⟨by rw [h2]; omega, ?_⟩
      congr 1
      obtain ⟨v, hv⟩ := List.length_eq_one_iff.1 h1
      have : z = #[v] := by rw [← Array.toArray_toList (xs := z), hv]
      subst this
      simp [Nat.mod_one]
    · cases hx
  · have key : ∀ n i x, ((List.replicate n (z.toList.map AV.sc)).flatten)[i]? = some x → i < n * z.size ∧ x = .sc (z[i % z.size]!) := by
      intro n
      induction n with
      | zero => intro i x h; simp at h
      | succ n ih =>
        intro i x hx
        rw [List.replicate_succ, List.flatten_cons] at hx
        by_cases hlt : i < z.size
        · rw [List.getElem?_append_left (by simpa using hlt), List.getElem?_map] at hx
          rw [Nat.mod_eq_of_lt hlt]
          simp [hlt] at hx
          refine ⟨by rw [Nat.succ_mul]; omega, ?_⟩
          rw [← hx]
          simp [hlt]
        · rw [List.getElem?_append_right (by simp; omega)] at hx
          obtain ⟨h3, h4⟩ := ih _ _ hx
          simp only [List.length_map, Array.length_toList] at h3 h4
          refine ⟨by rw [Nat.succ_mul]; omega, ?_⟩
          rw [h4, Nat.mod_eq_sub_mod (a := i) (by omega)]
    exact key n i x hx
theorem zrow_length {n : Nat} {z : Array Value} : (zrow n z.toList).length = n * z.size := by
  unfold zrow
  split
  · rename_i h1
    have : z.size = 1 := by simpa using h1
    simp [this]
  · simp [List.length_flatten]
theorem zrow_ok {n : Nat} {z : Array Value} : RepL w μ (Mof F s μ) (zrow n z.toList) ((Array.range (n * z.size)).map (z[· % z.size]!)).toList := by
  refine RepL.of_get (by rw [zrow_length]; simp) fun i x u hx hu => ?_
  obtain ⟨hi, rfl⟩ := zrow_get i x hx
  rw [Array.getElem?_toList, Array.getElem?_map, Array.getElem?_range, if_pos hi] at hu
  have := Option.some.inj hu
  subst this
  simp [Rep]
theorem ran_buildSlice (sim : Sim F s μ a w) {o : Oper} (hh : Own B o.dst h s) {t : TypeId} {len : Nat} {ps : Array (Nat × Operand)} (ho : o.op = .buildSlice t len ps) (he : aeff P B o.op o.dst (ev s) h = some (v, ups)) : Ran P F s μ a w o v ups := by
  rw [ho] at he
  simp only [aeff, abuildSlice] at he
  have hps : (ps.map fun p => (p.1, a.eval p.2)).toList = ps.toList.map fun p => (p.1, a.eval p.2) := by simp
  split at he
  · rename_i e d sz z b hsl
    obtain ⟨hu, hty⟩ := aslice0_spec hsl
    obtain ⟨i, h1, h2, h3, h4, h5⟩ := tyOf_spec hty
    simp only [Option.map_eq_some_iff] at h4
    obtain ⟨zv, h6, h7⟩ := h4
    subst h7
    split at he
    · rename_i hc
      obtain ⟨hz, hsm⟩ := hc
      have hz' : zv.cells.size = sz := by simpa using hz
      split at he
      · rename_i cs hf
        have hrow := zrow_ok (F := F) (s := s) (μ := μ) (w := w) (n := len) (z := zv.cells)
        obtain ⟨arr', h8, h9⟩ := fill_rep (w := w) (μ := μ) (M := Mof F s μ) _ _ _ _ cs _ hrow (parts_rep sim ps.toList) hf
        have hl := RepL.length h9
        rw [← hps] at h8
        have hlen : cs.length = len * sz := by
          have := RepL.length hrow
          have hfl : ∀ (parts : List (Nat × AV)) (cs cs' : List AV), afill (fun i => some (i * sz, sz)) cs parts = some cs' → cs'.length = cs.length := by
            intro parts
            induction parts with
            | nil => intro cs cs' h; simp only [afill, Option.some.injEq] at h; rw [h]
            | cons p parts ih =>
              obtain ⟨i, x⟩ := p
              intro cs cs' h
              simp only [afill] at h
              split at h
              · rw [ih _ _ h, setAt_length]
              · cases h
          rw [hfl _ _ _ hf, this]
          simp [hz']
        refine ⟨.value (.slice (some ⟨w.heap.size, 0, none⟩) len len), _, w.alloc (.cells arr' e), ?_, .inl rfl, ?_⟩
        · by_cases h0 : len * sz = 0
          · have e0 : (Array.range (len * zv.cells.size)).map (zv.cells[· % zv.cells.size]!) = (Array.range (len * sz)).map (#[][· % (#[] : Array Value).size]!) := by
              rw [hz', h0]; simp
            rw [e0] at h8
            simp at h8
            simp [execOp, ho, Instr.buildSlice, run_underlying hu, run_sizeOf' hty, h0, newRow]
            rw [h0] at h8
            simp [h8]
          · rw [hz'] at h8
            simp at h8
            simp [execOp, ho, Instr.buildSlice, run_underlying hu, run_sizeOf' hty, Nat.not_lt.2 hsm, h0, newRow, zeroValue, typeInfo, h2, h6, hz', h8]
        · refine anew_out sim.hp hh he arr' e (0, 0) (by simp at hl; omega) nofreeze ?_ (by rfl) (by rfl) (by rfl) (by rfl) fun k g μ' M hm => hs_new hm (Nat.le_refl _) (by omega) (by omega) (by simp at hl; omega)
          intro j y hy
          obtain ⟨u, h10, h11⟩ := RepL.get h9 j y hy
          exact ⟨u, by simpa using h10, h11⟩
      · cases he
    · cases he
  · cases he
end
end Go.Ab
end
section
namespace Go.Ab
open Go
section
variable {P : Program} {F : Nat → Prop} {s : S} {μ : Mu} {a : Act} {w : World} {B : Nat} {h : Nat → AV} {v : AV} {ups : List (Nat × AV)} {M : Nat → Prop}
theorem run_isAgg' {t : TypeId} {d : TypeDesc} (h : P.underlying t = some d) (w : World) : (isAgg t).run P w = .ok (isRow d) w := by
  simp only [isAgg, Sem.run_bind, run_underlying h, Result.andThen]
  cases d <;> rfl
theorem addr_add (c o n : Nat) : (⟨c, o, none⟩ : Addr).add n = ⟨c, o + n, none⟩ := by
  unfold Addr.add
  split
  · rename_i h; simp [h]
  · rfl
theorem cut_load {t : TypeId} {ty : Ty} (hty : tyOf P t = some ty) {cs : List AV} {off c o0 : Nat} (hc : ∀ (i : Nat) (x : AV), cs[i]? = some x → ∃ u, w.cell? ⟨c, o0 + i, none⟩ = some u ∧ Rep w μ M x u)
    (he : acut ty.d ty.sz cs off = some v) : ∃ u, (loadVar t ⟨c, o0 + off, none⟩).run P w = .ok u w ∧ Rep w μ M v u := by
  obtain ⟨i, h1, h2, h3, h4, h5⟩ := tyOf_spec hty
  unfold acut at he
  split at he
  · rename_i hrow
    split at he
    · rename_i hle
      cases he
      have hex : ∀ (n : Nat) (xs : List AV) (o : Nat), (∀ (i : Nat) (x : AV), xs[i]? = some x → ∃ u, w.cell? ⟨c, o + i, none⟩ = some u ∧ Rep w μ M x u) → xs.length = n →
          ∃ us : List Value, us.length = n ∧ RepL w μ M xs us ∧ ∀ (i : Nat) (u : Value), us[i]? = some u → w.cell? ⟨c, o + i, none⟩ = some u := by
        intro n
        induction n with
        | zero => intro xs o _ hl; exact ⟨[], rfl, by rw [List.eq_nil_of_length_eq_zero hl]; simp [RepL], by simp⟩
        | succ n ih =>
          intro xs o hx hl
          cases xs with
          | nil => simp at hl
          | cons x xs =>
            obtain ⟨u, hu1, hu2⟩ := hx 0 x (by simp)
            obtain ⟨us, h6, h7, h8⟩ := ih xs (o + 1) (fun i y hy => by
              have := hx (i + 1) y (by simpa using hy)
              rwa [show o + (i + 1) = o + 1 + i by omega] at this) (by simpa using hl)
            refine ⟨u :: us, by simp [h6], by simp only [RepL]; exact ⟨hu2, h7⟩, fun i u' hi => ?_⟩
            cases i with
            | zero => simp at hi; subst hi; exact hu1
            | succ i =>
              have := h8 i u' (by simpa using hi)
              rwa [show o + 1 + i = o + (i + 1) by omega] at this
      obtain ⟨us, h6, h7, h8⟩ := hex ty.sz ((cs.drop off).take ty.sz) (o0 + off) (fun i x hx => by
        rw [List.getElem?_take] at hx
        split at hx
        · rw [List.getElem?_drop] at hx
          have := hc _ _ hx
          rwa [← Nat.add_assoc] at this
        · cases hx) (by simp; omega)
      refine ⟨.agg us.toArray, ?_, by simp only [Rep]; exact ⟨us.toArray, rfl, h7⟩⟩
      have hl := run_loadCells_list (P := P) w ⟨c, o0 + off, none⟩ us (fun j u hj => by rw [addr_add]; exact h8 j u hj)
      rw [h6] at hl
      simp [loadVar, run_isAgg' h1, hrow, run_sizeOf' hty, hl]
    · cases he
  · rename_i hrow
    obtain ⟨u, hu1, hu2⟩ := hc _ _ he
    refine ⟨u, ?_, hu2⟩
    simp only [Bool.not_eq_true] at hrow
    simp [loadVar, run_isAgg' h1, hrow, load, Sem.run, hu1]
theorem row_cells (hp : Hp F s μ w) {k g st : Nat} {cs : List AV} (hs : s (.h k) = .blk g st cs) (hst : st ≠ 0) {c L A : Nat} (hm : μ k g = some (c, L, A)) :
    (∀ (i : Nat) (x : AV), cs[i]? = some x → ∃ u, w.cell? ⟨c, 0 + i, none⟩ = some u ∧ Rep w μ (Mof F s μ) x u) ∧ L = cs.length := by
  obtain ⟨c', A', arr, e, f, h1, h2, h3, h4, h5, h6⟩ := hp.row k g st cs hs hst
  rw [hm] at h1
  cases h1
  refine ⟨fun i x hx => ?_, rfl⟩
  obtain ⟨_, u, h7, h8⟩ := h6 i x hx
  exact ⟨u, by simp [World.cell?, h2, h7], h8⟩
theorem ran_load (sim : Sim F s μ a w) (hh : Sub h s) {o : Oper} {t : TypeId} {x : Operand} (ho : o.op = .load t x) (he : aeff P B o.op o.dst (ev s) h = some (v, ups)) : Ran P F s μ a w o v ups := by
  rw [ho] at he
  simp only [aeff, Option.map_eq_some_iff] at he
  obtain ⟨v', he, hv⟩ := he
  cases hv
  unfold aload at he
  have hx := ev_rep sim x
  split at he
  · cases he
  · rename_i ty hty
    split at he
    · rename_i k g off hxe
      rw [hxe] at hx
      simp only [Rep] at hx
      obtain ⟨c, L, A, hm, hxv⟩ := hx
      split at he
      · rename_i g' st cs hb
        split at he
        · rename_i hc
          obtain ⟨rfl, hst⟩ := hc
          obtain ⟨hcells, _⟩ := row_cells sim.hp (hh _ _ _ _ hb) hst hm
          obtain ⟨u, h1, h2⟩ := cut_load hty hcells he
          refine Ran.quiet sim.hp u ?_ h2
          rw [Nat.zero_add] at h1
          simp [execOp, ho, hxv, Instr.loadAt, Instr.sureAddr, h1]
        · cases he
      · cases he
    · rename_i xs hxe
      rw [hxe] at hx
      simp only [Rep] at hx
      obtain ⟨b, o1, hxv, hb, hM, hrow⟩ := hx
      obtain ⟨u, h1, h2⟩ := cut_load (M := Mof F s μ) (c := b) (o0 := o1) hty (fun i x hi => (Row.get hrow i x hi).2) he
      refine Ran.quiet sim.hp u ?_ h2
      rw [Nat.add_zero] at h1
      simp [execOp, ho, hxv, Instr.loadAt, Instr.sureAddr, h1]
    · cases he
theorem one_oneCell {v : Value} (h : oneV v = true) : v.oneCell' = true := by cases v <;> simp_all [oneV, Value.oneCell']
theorem ran_store (sim : Sim F s μ a w) (hh : Sub h s) {o : Oper} {t : TypeId} {x y : Operand} (ho : o.op = .store t x y) (he : aeff P B o.op o.dst (ev s) h = some (v, ups)) : Ran P F s μ a w o v ups := by
  rw [ho] at he
  simp only [aeff] at he
  unfold astore at he
  have hx := ev_rep sim x
  have hy := cells_rep (ev_rep sim y)
  split at he
  · cases he
  · rename_i ty hty
    split at he
    · rename_i k g off hxe
      rw [hxe] at hx
      simp only [Rep] at hx
      obtain ⟨c, L, A, hm, hxv⟩ := hx
      split at he
      · rename_i g' st cs hb
        split at he
        · rename_i hc
          obtain ⟨rfl, rfl, hl, hoff, hone⟩ := hc
          cases he
          obtain ⟨c', L', A', h1, h2, h3, h4, h5⟩ := store_out (P := P) sim.hp (hh _ _ _ _ hb) off _ _ (by rw [hl]; exact hoff) (by simpa using hone) hy
          rw [hm] at h1
          cases h1
          refine ⟨.skip, undef, _, ?_, .inr ⟨rfl, rfl⟩, h5 _ _ fun w' => by simp [Rep]⟩
          have hst := run_storeCells_cells (P := P) c off (a.eval y).cells.toList 0 w (fun j hj => by simpa using h2 j hj) (fun j hj => by simpa using h3 j hj) (fun u hu => one_oneCell (h4 u hu))
          have hsz : (a.eval y).cells.size = ty.sz := by have := RepL.length hy; simp at this; omega
          simp only [Nat.add_zero] at hst
          simp [execOp, ho, hxv, Instr.storeAt, Instr.sureAddr, storeVar, run_sizeOf' hty, hsz, hst]
        · cases he
      · cases he
    · cases he
theorem eqGuard_quiet {op : BinOp} {t : TypeId} {x y : Operand} {u v : Value} (h1 : ∀ z, u ≠ .agg z) (h2 : u ≠ .nilIface) : (eqGuard op t x y u v).run P w = .ok () w := by
  unfold eqGuard
  cases op <;> first
    | rfl
    | (cases u <;> first | rfl | exact absurd rfl h2 | exact absurd rfl (h1 _))
theorem ibin_ok {op : BinOp} {t : TypeId} {k : IntKind} {m n : Int} {r : Value} (h : ibin op k m n = some r) : (binOp op t (.int k m) (.int k n)).run P w = .ok r w := by
  cases op <;> simp only [ibin] at h <;> first
    | (simp only [Option.some.injEq] at h; subst h; simp [binOp, Op.intArith, Op.intBits, Op.intCmp, bAnd, bOr, bXor]; done)
    | (split at h; cases h; rename_i hn; simp only [Option.some.injEq] at h; subst h; simp [binOp, Op.intDiv, hn]; done)
    | cases h
theorem sbin_ok {op : BinOp} {t : TypeId} {m n : ByteArray} {r : Value} (h : sbin op m n = some r) : (binOp op t (.string m) (.string n)).run P w = .ok r w := by
  cases op <;> simp only [sbin] at h <;> first
    | (split at h
       · rename_i hn; simp only [Option.some.injEq] at h; subst h
         have : ¬ (9223372036854775807 < ((m.size : Int) + (n.size : Int))) := by omega
         simp [binOp, Op.stringOp, this]
       · cases h)
    | (simp only [Option.some.injEq] at h; subst h; simp [binOp, Op.stringOp]; done)
    | cases h
end
end Go.Ab
end
section
namespace Go.Ab
open Go
section
variable {P : Program} {F : Nat → Prop} {s : S} {μ : Mu} {a : Act} {w : World} {B : Nat} {h : Nat → AV} {v : AV} {ups : List (Nat × AV)} {M : Nat → Prop}
theorem rep_sc {u x : Value} (h : Rep w μ M (.sc u) x) : x = u := by simpa [Rep] using h
theorem nilS_ok {a : AV} {v x : Value} (h : nilS a v = true) (hr : Rep w μ M a x) : (∃ ad n c, x = .slice (some ad) n c) ∧ ∃ n c, v = .slice none n c := by
  unfold nilS at h
  split at h
  · simp only [Rep] at hr
    obtain ⟨_, _, _, _, _, rfl, _⟩ := hr
    exact ⟨⟨_, _, _, rfl⟩, _, _, rfl⟩
  · simp only [Rep] at hr
    obtain ⟨_, _, rfl, _, hr | ⟨_, _, rfl, _⟩⟩ := hr
    · cases hr
    · exact ⟨⟨_, _, _, rfl⟩, _, _, rfl⟩
  · cases h
theorem nilP_ok {a : AV} {v x : Value} (h : nilP a v = true) (hr : Rep w μ M a x) : (∃ ad, x = .pointer (some ad)) ∧ v = .pointer none := by
  unfold nilP at h
  split at h
  · simp only [Rep] at hr
    obtain ⟨_, _, _, _, rfl⟩ := hr
    exact ⟨⟨_, rfl⟩, rfl⟩
  · simp only [Rep] at hr
    obtain ⟨_, _, rfl, _⟩ := hr
    exact ⟨⟨_, rfl⟩, rfl⟩
  · cases h
theorem eqS {t e : TypeId} (ht : P.underlying t = some (.slice e)) (ad : Addr) (n c n' c' : Nat) : (Op.equal t (.slice (some ad) n c) (.slice none n' c')).run P w = .ok false w := by
  have h : ∀ d : Nat, (Op.equalIn (d + 1) t (.slice (some ad) n c) (.slice none n' c')).run P w = .ok false w := fun d => by simp [Op.equalIn, run_underlying ht]
  exact h 9999
theorem eqP {t e : TypeId} (ht : P.underlying t = some (.pointer e)) (ad : Addr) : (Op.equal t (.pointer (some ad)) (.pointer none)).run P w = .ok false w := by
  have h : ∀ d : Nat, (Op.equalIn (d + 1) t (.pointer (some ad)) (.pointer none)).run P w = .ok false w := fun d => by simp [Op.equalIn, run_underlying ht]
  exact h 9999
theorem bin_eql {t : TypeId} {x y : Value} (hb : binOp .eql t x y = (do pure (.bool (← Op.equal t x y)))) {b : Bool} (he : (Op.equal t x y).run P w = .ok b w) : (binOp .eql t x y).run P w = .ok (.bool b) w := by
  rw [hb, Sem.run_bind, he]; rfl
theorem bin_neq {t : TypeId} {x y : Value} (hb : binOp .neq t x y = (do pure (.bool (!(← Op.equal t x y))))) {b : Bool} (he : (Op.equal t x y).run P w = .ok b w) : (binOp .neq t x y).run P w = .ok (.bool (!b)) w := by
  rw [hb, Sem.run_bind, he]; rfl
theorem abin_ok {op : BinOp} {t : TypeId} {x y : Operand} {p q v : AV} {m n : Value} (he : abin P op t x y p q = some v) (hm : Rep w μ M p m) (hn : Rep w μ M q n) :
    ∃ r, (eqGuard op t x y m n).run P w = .ok () w ∧ (binOp op t m n).run P w = .ok r w ∧ Rep w μ M v r ∨ ∃ r, (do eqGuard op t x y m n; binOp op t m n : Sem Value).run P w = .ok r w ∧ Rep w μ M v r := by
  unfold abin at he
  split at he
  · rename_i k i k' j
    have := rep_sc hm; subst this
    have := rep_sc hn; subst this
    have hg : (eqGuard op t x y (.int k i) (.int k' j)).run P w = .ok () w := eqGuard_quiet (fun _ h => by cases h) (by simp)
    have hsh : (op = .shl ∨ op = .shr) → ∃ r, (binOp op t (.int k i) (.int k' j)).run P w = .ok r w ∧ Rep w μ M v r := by
      rintro (rfl | rfl)
      · simp only at he
        split at he
        · cases he
        · rename_i hj
          cases he
          exact ⟨_, by simp only [binOp, Op.shift, if_neg hj]; rfl, by simp [Rep]⟩
      · simp only at he
        split at he
        · cases he
        · rename_i hj
          cases he
          exact ⟨_, by simp only [binOp, Op.shift, if_neg hj]; rfl, by simp [Rep]⟩
    by_cases hs : op = .shl ∨ op = .shr
    · obtain ⟨r, h1, h2⟩ := hsh hs
      exact ⟨r, .inl ⟨hg, h1, h2⟩⟩
    · have he2 : (if k = k' then (ibin op k i j).map AV.sc else none) = some v := by
        cases op <;> first | exact he | exact absurd (.inl rfl) hs | exact absurd (.inr rfl) hs
      split at he2
      · rename_i hk
        subst hk
        simp only [Option.map_eq_some_iff] at he2
        obtain ⟨r, h1, rfl⟩ := he2
        exact ⟨r, .inl ⟨hg, ibin_ok h1, by simp [Rep]⟩⟩
      · cases he2
  · have := rep_sc hm; subst this
    have := rep_sc hn; subst this
    simp only [Option.map_eq_some_iff] at he
    obtain ⟨r, h1, rfl⟩ := he
    exact ⟨r, .inl ⟨eqGuard_quiet (fun _ h => by cases h) (by simp), sbin_ok h1, by simp [Rep]⟩⟩
  · have := rep_sc hm; subst this
    have := rep_sc hn; subst this
    simp only [Option.map_eq_some_iff] at he
    obtain ⟨r, h1, rfl⟩ := he
    exact ⟨undef, .inr ⟨r, pureRun_ok h1 w, by simp [Rep]⟩⟩
  · rename_i p u _ _ _
    have := rep_sc hn; subst this
    split at he
    · rename_i e _ _ _ hty
      obtain ⟨i, h1, _⟩ := tyOf_spec hty
      split at he
      · rename_i hni
        cases he
        obtain ⟨⟨ad, n1, c1, rfl⟩, n2, c2, rfl⟩ := nilS_ok hni hm
        exact ⟨.bool false, .inl ⟨eqGuard_quiet (fun _ h => by cases h) (by simp), bin_eql rfl (eqS h1 _ _ _ _ _), by simp [Rep]⟩⟩
      · cases he
    · rename_i e _ _ _ hty
      obtain ⟨i, h1, _⟩ := tyOf_spec hty
      split at he
      · rename_i hni
        cases he
        obtain ⟨⟨ad, n1, c1, rfl⟩, n2, c2, rfl⟩ := nilS_ok hni hm
        exact ⟨.bool true, .inl ⟨eqGuard_quiet (fun _ h => by cases h) (by simp), bin_neq rfl (eqS h1 _ _ _ _ _), by simp [Rep]⟩⟩
      · cases he
    · rename_i e _ _ _ hty
      obtain ⟨i, h1, _⟩ := tyOf_spec hty
      split at he
      · rename_i hni
        cases he
        obtain ⟨⟨ad, rfl⟩, rfl⟩ := nilP_ok hni hm
        exact ⟨.bool false, .inl ⟨eqGuard_quiet (fun _ h => by cases h) (by simp), bin_eql rfl (eqP h1 _), by simp [Rep]⟩⟩
      · cases he
    · rename_i e _ _ _ hty
      obtain ⟨i, h1, _⟩ := tyOf_spec hty
      split at he
      · rename_i hni
        cases he
        obtain ⟨⟨ad, rfl⟩, rfl⟩ := nilP_ok hni hm
        exact ⟨.bool true, .inl ⟨eqGuard_quiet (fun _ h => by cases h) (by simp), bin_neq rfl (eqP h1 _), by simp [Rep]⟩⟩
      · cases he
    · cases he
  · cases he
theorem ran_binOp (sim : Sim F s μ a w) {o : Oper} {op : BinOp} {t yt : TypeId} {x y : Operand} (ho : o.op = .binOp op t x y yt) (he : aeff P B o.op o.dst (ev s) h = some (v, ups)) : Ran P F s μ a w o v ups := by
  rw [ho] at he
  simp only [aeff, Option.map_eq_some_iff] at he
  obtain ⟨v', he, hv⟩ := he
  cases hv
  obtain ⟨r, ⟨h1, h2, h3⟩ | ⟨r', h1, h2⟩⟩ := abin_ok he (ev_rep sim x) (ev_rep sim y)
  · exact Ran.quiet sim.hp r (by simp [execOp, ho, h1, h2]) h3
  · refine Ran.quiet sim.hp r' ?_ h2
    simp only [execOp, ho, Sem.run_bind] at h1 ⊢
    rw [h1]
    rfl
theorem ran_unOp (sim : Sim F s μ a w) {o : Oper} {op : UnOp} {t : TypeId} {x : Operand} (ho : o.op = .unOp op t x) (he : aeff P B o.op o.dst (ev s) h = some (v, ups)) : Ran P F s μ a w o v ups := by
  rw [ho] at he
  simp only [aeff, Option.map_eq_some_iff] at he
  obtain ⟨v', he, hv⟩ := he
  cases hv
  have hx := ev_rep sim x
  unfold aun at he
  split at he
  · rename_i k n hxe
    rw [hxe] at hx
    have hx := rep_sc hx
    split at he
    · cases he
      exact Ran.quiet sim.hp _ (by simp [execOp, ho, hx, Op.unary, Op.intArith]; rfl) (by simp [Rep])
    · cases he
      exact Ran.quiet sim.hp (.int k (bNot k n)) (by simp [execOp, ho, hx, Op.unary, Op.intBits, bNot]) (by simp [Rep])
    · cases he
  · rename_i b hxe
    rw [hxe] at hx
    have hx := rep_sc hx
    split at he
    · cases he
      exact Ran.quiet sim.hp _ (by simp [execOp, ho, hx, Op.unary]; rfl) (by simp [Rep])
    · cases he
  · rename_i u _ _ hxe
    rw [hxe] at hx
    have hx := rep_sc hx
    simp only [Option.map_eq_some_iff] at he
    obtain ⟨r, h1, rfl⟩ := he
    exact Ran.quiet sim.hp r (by simp [execOp, ho, hx, pureRun_ok h1 w]) (by simp [Rep])
  · cases he
theorem ran_extract (sim : Sim F s μ a w) {o : Oper} {x : Operand} {i : Nat} (ho : o.op = .extract x i) (he : aeff P B o.op o.dst (ev s) h = some (v, ups)) : Ran P F s μ a w o v ups := by
  rw [ho] at he
  simp only [aeff, Option.map_eq_some_iff] at he
  obtain ⟨v', he, hv⟩ := he
  cases hv
  have hx := ev_rep sim x
  unfold aextract at he
  split at he
  · rename_i cs hxe
    rw [hxe] at hx
    simp only [Rep] at hx
    obtain ⟨vs, hxv, hr⟩ := hx
    obtain ⟨u, h1, h2⟩ := RepL.get hr i _ he
    refine Ran.quiet sim.hp u ?_ h2
    simp only [Array.getElem?_toList] at h1
    simp [execOp, ho, hxv, Instr.extract, h1]
  · rename_i vs hxe
    rw [hxe] at hx
    have hx := rep_sc hx
    simp only [Option.map_eq_some_iff, Array.getElem?_toList] at he
    obtain ⟨u, h1, rfl⟩ := he
    exact Ran.quiet sim.hp u (by simp [execOp, ho, hx, Instr.extract, h1]) (by simp [Rep])
  · cases he
theorem fieldOf_spec {t : TypeId} {f : Nat} {fd : Field} {ty : Ty} (h : fieldOf P t f = some (fd, ty)) : ∃ fs, P.underlying t = some (.struct fs) ∧ fs[f]? = some fd ∧ tyOf P fd.type = some ty := by
  unfold fieldOf at h
  split at h
  · rename_i fs _ _ _ hty
    obtain ⟨i, h1, _⟩ := tyOf_spec hty
    split at h
    · rename_i fd' hf
      simp only [Option.map_eq_some_iff] at h
      obtain ⟨ty', h2, h3⟩ := h
      cases h3
      exact ⟨fs, h1, hf, h2⟩
    · cases h
  · cases h
theorem ran_fieldAddr (sim : Sim F s μ a w) {o : Oper} {t : TypeId} {x : Operand} {f : Nat} (ho : o.op = .fieldAddr t x f) (he : aeff P B o.op o.dst (ev s) h = some (v, ups)) : Ran P F s μ a w o v ups := by
  rw [ho] at he
  simp only [aeff, Option.map_eq_some_iff] at he
  obtain ⟨v', he, hv⟩ := he
  cases hv
  have hx := ev_rep sim x
  unfold afieldAddr at he
  split at he
  · rename_i fd ty hf
    obtain ⟨fs, h1, h2, h3⟩ := fieldOf_spec hf
    split at he
    · cases he
    · rename_i hz
      have hz' : (sizeOf fd.type).run P w = .ok ty.sz w := run_sizeOf' h3 w
      split at he
      · rename_i k g off hxe
        rw [hxe] at hx
        cases he
        simp only [Rep] at hx
        obtain ⟨c, L, A, h4, hxv⟩ := hx
        refine Ran.quiet sim.hp (.pointer (some ⟨c, off + fd.offset, none⟩)) ?_ (by simp only [Rep]; exact ⟨c, L, A, h4, rfl⟩)
        simp [execOp, ho, hxv, Instr.fieldAt, run_underlying h1, h2, Instr.sureAddr, fieldPlace, hz', hz, addr_add]
      · rename_i xs hxe
        rw [hxe] at hx
        cases he
        simp only [Rep] at hx
        obtain ⟨b, o1, hxv, h5, h6, h7⟩ := hx
        refine Ran.quiet sim.hp (.pointer (some ⟨b, o1 + fd.offset, none⟩)) ?_ (by simp only [Rep]; exact ⟨b, _, rfl, h5, h6, Row.drop h7 _⟩)
        simp [execOp, ho, hxv, Instr.fieldAt, run_underlying h1, h2, Instr.sureAddr, fieldPlace, hz', hz, addr_add]
      · cases he
  · cases he
theorem acut_part {t : TypeId} {ty : Ty} (hty : tyOf P t = some ty) {cs : List AV} {us : Array Value} {off : Nat} (hr : RepL w μ M cs us.toList) (he : acut ty.d ty.sz cs off = some v) :
    ∃ u, (part t us off).run P w = .ok u w ∧ Rep w μ M v u := by
  obtain ⟨i, h1, h2, h3, h4, h5⟩ := tyOf_spec hty
  have hl := RepL.length hr
  unfold acut at he
  split at he
  · rename_i hrow
    split at he
    · rename_i hle
      cases he
      refine ⟨.agg (us.extract off (off + ty.sz)), by simp [part, run_isAgg' h1, hrow, run_sizeOf' hty], ?_⟩
      simp only [Rep]
      refine ⟨_, rfl, RepL.of_get (by simp at hl ⊢; omega) fun i x u hx hu => ?_⟩
      rw [List.getElem?_take] at hx
      split at hx
      · rename_i hi
        rw [List.getElem?_drop] at hx
        have hi2 : off + i < us.size := by simp at hl; omega
        have hu2 : us.toList[off + i]? = some u := by
          rw [Array.toList_extract, List.extract_eq_take_drop, List.getElem?_take, List.getElem?_drop] at hu
          split at hu
          · exact hu
          · cases hu
        exact RepL.getR hr _ _ _ hx hu2
      · cases hx
    · cases he
  · rename_i hrow
    simp only [Bool.not_eq_true] at hrow
    obtain ⟨u, h6, h7⟩ := RepL.get hr _ _ he
    simp only [Array.getElem?_toList] at h6
    exact ⟨u, by simp [part, run_isAgg' h1, hrow, h6], h7⟩
theorem ran_field (sim : Sim F s μ a w) {o : Oper} {t : TypeId} {x : Operand} {f : Nat} (ho : o.op = .field t x f) (he : aeff P B o.op o.dst (ev s) h = some (v, ups)) : Ran P F s μ a w o v ups := by
  rw [ho] at he
  simp only [aeff, Option.map_eq_some_iff] at he
  obtain ⟨v', he, hv⟩ := he
  cases hv
  have hx := ev_rep sim x
  unfold afield at he
  split at he
  · rename_i fd ty hf
    obtain ⟨fs, h1, h2, h3⟩ := fieldOf_spec hf
    split at he
    · rename_i cs hxe
      rw [hxe] at hx
      simp only [Rep] at hx
      obtain ⟨us, hxv, hr⟩ := hx
      obtain ⟨u, h4, h5⟩ := acut_part h3 hr he
      exact Ran.quiet sim.hp u (by simp [execOp, ho, hxv, Instr.field, run_underlying h1, h2, asAgg, h4]) h5
    · rename_i us hxe
      rw [hxe] at hx
      have hx := rep_sc hx
      obtain ⟨u, h4, h5⟩ := acut_part (μ := μ) (M := Mof F s μ) h3 (RepL_sc us.toList) he
      exact Ran.quiet sim.hp u (by simp [execOp, ho, hx, Instr.field, run_underlying h1, h2, asAgg, h4]) h5
    · cases he
  · cases he
end
end Go.Ab
end

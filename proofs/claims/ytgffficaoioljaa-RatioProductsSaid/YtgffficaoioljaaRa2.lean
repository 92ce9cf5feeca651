import Derived.Calls
import Derived.Orders
set_option linter.all false
section
namespace Go.Ab
open Go
inductive Loc where
  | t (i : Nat)
  | h (k : Nat)
  deriving DecidableEq
inductive AV where
  | sc (v : Value)
  | vs (n : Nat) (xs : List AV)
  | hs (k g off n z : Nat)
  | hp (k g off : Nat)
  | vp (xs : List AV)
  | agg (cs : List AV)
  | tup (cs : List AV)
  | blk (g st : Nat) (cs : List AV)
  deriving Inhabited
def oneV : Value → Bool
  | .agg _ | .tuple _ => false
  | _ => true
def AV.one : AV → Bool
  | .sc v => oneV v
  | .agg _ | .tup _ | .blk .. => false
  | _ => true
def AV.fz : AV → Bool
  | .sc v => oneV v
  | .vs .. => true
  | _ => false
theorem AV.one_of_fz {x : AV} (h : x.fz = true) : x.one = true := by cases x <;> simp_all [AV.fz, AV.one]
abbrev Mu := Nat → Nat → Option (Nat × Nat × Nat)
mutual
def Rep (w : World) (μ : Mu) (M : Nat → Prop) : AV → Value → Prop
  | .sc u, v => v = u
  | .vs n xs, v => ∃ a c, v = .slice a n c ∧ n ≤ c ∧ (xs = [] ∨ ∃ b o, a = some ⟨b, o, none⟩ ∧ ¬ M b ∧ Row w μ M b o xs)
  | .hs k g off n z, v => ∃ c L A cap, μ k g = some (c, L, A) ∧ v = .slice (some ⟨c, off, none⟩) n cap ∧ n ≤ cap ∧ off + n * z ≤ L ∧ L ≤ off + cap * z ∧ off + cap * z ≤ A
  | .hp k g off, v => ∃ c L A, μ k g = some (c, L, A) ∧ v = .pointer (some ⟨c, off, none⟩)
  | .vp xs, v => ∃ b o, v = .pointer (some ⟨b, o, none⟩) ∧ b < w.heap.size ∧ ¬ M b ∧ Row w μ M b o xs
  | .agg cs, v => ∃ vs, v = .agg vs ∧ RepL w μ M cs vs.toList
  | .tup cs, v => ∃ vs, v = .tuple vs ∧ RepL w μ M cs vs.toList
  | .blk .., _ => False
def RepL (w : World) (μ : Mu) (M : Nat → Prop) : List AV → List Value → Prop
  | [], [] => True
  | x :: xs, v :: vs => Rep w μ M x v ∧ RepL w μ M xs vs
  | _, _ => False
def Row (w : World) (μ : Mu) (M : Nat → Prop) (b : Nat) : Nat → List AV → Prop
  | _, [] => True
  | o, x :: xs => (x.fz = true ∧ ∃ v, w.cell? ⟨b, o, none⟩ = some v ∧ Rep w μ M x v) ∧ Row w μ M b (o + 1) xs
end
structure Ext (M : Nat → Prop) (w w' : World) : Prop where
  os : w'.os = w.os
  tape : w'.tape = w.tape
  output : w'.output = w.output
  size : w.heap.size ≤ w'.heap.size
  block : ∀ b, b < w.heap.size → ¬ M b → w'.heap[b]? = w.heap[b]?
def MuLe (μ μ' : Mu) : Prop := ∀ k g c, μ k g = some c → μ' k g = some c
theorem Ext.refl (M : Nat → Prop) (w : World) : Ext M w w := ⟨rfl, rfl, rfl, Nat.le_refl _, fun _ _ _ => rfl⟩
theorem Ext.trans {M M' : Nat → Prop} {a b c : World} (h : Ext M a b) (k : Ext M' b c) (hM : ∀ x, x < a.heap.size → M' x → M x) : Ext M a c :=
  ⟨k.os.trans h.os, k.tape.trans h.tape, k.output.trans h.output, Nat.le_trans h.size k.size,
   fun i hi hm => (k.block i (Nat.lt_of_lt_of_le hi h.size) (fun hh => hm (hM i hi hh))).trans (h.block i hi hm)⟩
theorem Ext.weaken {M M' : Nat → Prop} {a b : World} (h : Ext M a b) (hM : ∀ x, x < a.heap.size → M x → M' x) : Ext M' a b :=
  ⟨h.os, h.tape, h.output, h.size, fun i hi hm => h.block i hi fun hh => hm (hM i hi hh)⟩
theorem cell_lt {w : World} {b o : Nat} {v : Value} (h : w.cell? ⟨b, o, none⟩ = some v) : b < w.heap.size := by
  unfold World.cell? at h
  cases hb : w.heap[b]? with
  | none => rw [hb] at h; simp at h
  | some x => exact (Array.getElem?_eq_some_iff.1 hb).1
theorem cell_same {w w' : World} {b o : Nat} (h : w'.heap[b]? = w.heap[b]?) : w'.cell? ⟨b, o, none⟩ = w.cell? ⟨b, o, none⟩ := by
  simp [World.cell?, h]
structure Up (w : World) (μ : Mu) (M : Nat → Prop) (w' : World) (μ' : Mu) (M' : Nat → Prop) : Prop where
  size : w.heap.size ≤ w'.heap.size
  block : ∀ b, b < w.heap.size → ¬ M b → w'.heap[b]? = w.heap[b]?
  mu : MuLe μ μ'
  mt : ∀ b, b < w.heap.size → M' b → M b
section
variable {w w' : World} {μ μ' : Mu} {M M' : Nat → Prop}
mutual
theorem Rep.mono (u : Up w μ M w' μ' M') : ∀ (x : AV) (v : Value), Rep w μ M x v → Rep w' μ' M' x v
  | .sc u, v, h => by simpa [Rep] using h
  | .vs n xs, v, h => by
    simp only [Rep] at h ⊢
    obtain ⟨a, c, h1, h2, h3⟩ := h
    refine ⟨a, c, h1, h2, ?_⟩
    cases xs with
    | nil => exact .inl rfl
    | cons x xs =>
      rcases h3 with h3 | ⟨b, o, h4, h5, h6⟩
      · cases h3
      · have hb : b < w.heap.size := by
          simp only [Row] at h6
          obtain ⟨⟨_, v, hv, _⟩, _⟩ := h6
          exact cell_lt hv
        exact .inr ⟨b, o, h4, fun hh => h5 (u.mt b hb hh), Row.mono u b h5 (x :: xs) o h6⟩
  | .hs k g off n z, v, h => by
    simp only [Rep] at h ⊢
    obtain ⟨c, L, A, cap, h1, h2⟩ := h
    exact ⟨c, L, A, cap, u.mu _ _ _ h1, h2⟩
  | .hp k g off, v, h => by
    simp only [Rep] at h ⊢
    obtain ⟨c, L, A, h1, h2⟩ := h
    exact ⟨c, L, A, u.mu _ _ _ h1, h2⟩
  | .vp xs, v, h => by
    simp only [Rep] at h ⊢
    obtain ⟨b, o, h4, hb, h5, h6⟩ := h
    exact ⟨b, o, h4, Nat.lt_of_lt_of_le hb u.size, fun hh => h5 (u.mt b hb hh), Row.mono u b h5 xs o h6⟩
  | .agg cs, v, h => by
    simp only [Rep] at h ⊢
    obtain ⟨vs, h1, h2⟩ := h
    exact ⟨vs, h1, RepL.mono u cs vs.toList h2⟩
  | .tup cs, v, h => by
    simp only [Rep] at h ⊢
    obtain ⟨vs, h1, h2⟩ := h
    exact ⟨vs, h1, RepL.mono u cs vs.toList h2⟩
  | .blk .., v, h => by simp [Rep] at h
theorem RepL.mono (u : Up w μ M w' μ' M') : ∀ (xs : List AV) (vs : List Value), RepL w μ M xs vs → RepL w' μ' M' xs vs
  | [], [], _ => by simp [RepL]
  | x :: xs, v :: vs, h => by
    simp only [RepL] at h ⊢
    exact ⟨Rep.mono u x v h.1, RepL.mono u xs vs h.2⟩
  | [], _ :: _, h => by simp [RepL] at h
  | _ :: _, [], h => by simp [RepL] at h
theorem Row.mono (u : Up w μ M w' μ' M') (b : Nat) (hb : ¬ M b) : ∀ (xs : List AV) (o : Nat), Row w μ M b o xs → Row w' μ' M' b o xs
  | [], o, _ => by simp [Row]
  | x :: xs, o, h => by
    simp only [Row] at h ⊢
    obtain ⟨⟨h1, v, h2, h3⟩, h4⟩ := h
    refine ⟨⟨h1, v, ?_, Rep.mono u x v h3⟩, Row.mono u b hb xs (o + 1) h4⟩
    rw [cell_same (u.block b (cell_lt h2) hb)]
    exact h2
end
theorem RepL.length : ∀ {xs : List AV} {vs : List Value}, RepL w μ M xs vs → xs.length = vs.length
  | [], [], _ => rfl
  | x :: xs, v :: vs, h => by
    simp only [RepL] at h
    simp [RepL.length h.2]
  | [], _ :: _, h => by simp [RepL] at h
  | _ :: _, [], h => by simp [RepL] at h
theorem RepL.get : ∀ {xs : List AV} {vs : List Value}, RepL w μ M xs vs → ∀ (i : Nat) (x : AV), xs[i]? = some x → ∃ v, vs[i]? = some v ∧ Rep w μ M x v
  | [], [], _ => by simp
  | x :: xs, v :: vs, h => by
    simp only [RepL] at h
    intro i y hy
    cases i with
    | zero => simp at hy; subst hy; exact ⟨v, by simp, h.1⟩
    | succ i => simp at hy; simpa using RepL.get h.2 i y hy
  | [], _ :: _, h => by simp [RepL] at h
  | _ :: _, [], h => by simp [RepL] at h
theorem RepL.of_get : ∀ {xs : List AV} {vs : List Value}, xs.length = vs.length → (∀ (i : Nat) (x : AV) (v : Value), xs[i]? = some x → vs[i]? = some v → Rep w μ M x v) → RepL w μ M xs vs
  | [], [], _, _ => by simp [RepL]
  | x :: xs, v :: vs, hl, h => by
    simp only [RepL]
    exact ⟨h 0 x v (by simp) (by simp), RepL.of_get (by simpa using hl) fun i y u hy hu => h (i + 1) y u (by simpa using hy) (by simpa using hu)⟩
  | [], _ :: _, h, _ => by simp at h
  | _ :: _, [], h, _ => by simp at h
theorem Row.get {b : Nat} : ∀ {xs : List AV} {o : Nat}, Row w μ M b o xs → ∀ (i : Nat) (x : AV), xs[i]? = some x → x.fz = true ∧ ∃ v, w.cell? ⟨b, o + i, none⟩ = some v ∧ Rep w μ M x v
  | [], _, _ => by simp
  | x :: xs, o, h => by
    simp only [Row] at h
    intro i y hy
    cases i with
    | zero => simp at hy; subst hy; exact h.1
    | succ i =>
      simp at hy
      have := Row.get h.2 i y hy
      rwa [show o + 1 + i = o + (i + 1) by omega] at this
theorem Row.of_get {b : Nat} : ∀ {xs : List AV} {o : Nat}, (∀ (i : Nat) (x : AV), xs[i]? = some x → x.fz = true ∧ ∃ v, w.cell? ⟨b, o + i, none⟩ = some v ∧ Rep w μ M x v) → Row w μ M b o xs
  | [], _, _ => by simp [Row]
  | x :: xs, o, h => by
    simp only [Row]
    refine ⟨h 0 x (by simp), Row.of_get fun i y hy => ?_⟩
    have := h (i + 1) y (by simpa using hy)
    rwa [show o + (i + 1) = o + 1 + i by omega] at this
theorem Row.drop {b : Nat} {xs : List AV} {o : Nat} (h : Row w μ M b o xs) (j : Nat) : Row w μ M b (o + j) (xs.drop j) :=
  Row.of_get fun i x hx => by
    rw [List.getElem?_drop] at hx
    have := Row.get h (j + i) x hx
    rwa [show o + (j + i) = o + j + i by omega] at this
theorem Row.take {b : Nat} {xs : List AV} {o : Nat} (h : Row w μ M b o xs) (j : Nat) : Row w μ M b o (xs.take j) :=
  Row.of_get fun i x hx => by
    rw [List.getElem?_take] at hx
    split at hx
    · exact Row.get h i x hx
    · cases hx
theorem Rep.one {x : AV} {v : Value} (h : Rep w μ M x v) (hx : x.one = true) : oneV v = true := by
  cases x <;> simp only [Rep, AV.one] at h hx
  · subst h; exact hx
  · obtain ⟨_, _, rfl, _⟩ := h; rfl
  · obtain ⟨_, _, _, _, _, rfl, _⟩ := h; rfl
  · obtain ⟨_, _, _, _, rfl⟩ := h; rfl
  · obtain ⟨_, _, rfl, _⟩ := h; rfl
  · cases hx
  · cases hx
theorem Up.refl (w : World) (μ : Mu) (M : Nat → Prop) : Up w μ M w μ M := ⟨Nat.le_refl _, fun _ _ _ => rfl, fun _ _ _ h => h, fun _ _ h => h⟩
end
abbrev S := Loc → AV
def upd (s : S) (l : Loc) (v : AV) : S := fun l' => if l' = l then v else s l'
theorem upd_same (s : S) (l : Loc) (v : AV) : upd s l v l = v := by simp [upd]
theorem upd_other (s : S) {l l' : Loc} (v : AV) (h : l' ≠ l) : upd s l v l' = s l' := by simp [upd, h]
def Wof (s : S) (μ : Mu) (c : Nat) : Prop := ∃ k g cs L A, s (.h k) = .blk g 2 cs ∧ μ k g = some (c, L, A)
def Mof (F : Nat → Prop) (s : S) (μ : Mu) (c : Nat) : Prop := F c ∨ Wof s μ c
structure Hp (F : Nat → Prop) (s : S) (μ : Mu) (w : World) : Prop where
  row : ∀ k g st cs, s (.h k) = .blk g st cs → st ≠ 0 → ∃ c A arr e f, μ k g = some (c, cs.length, A) ∧ w.heap[c]? = some (.cells arr e f) ∧ arr.size = A ∧ cs.length ≤ A ∧
    (∀ o, o < A → ¬ (f.1 ≤ o ∧ o < f.2)) ∧ ∀ (i : Nat) (x : AV), cs[i]? = some x → x.one = true ∧ ∃ v, arr[i]? = some v ∧ Rep w μ (Mof F s μ) x v
  inj : ∀ k g st cs k' g' st' cs' c L A L' A', s (.h k) = .blk g st cs → st ≠ 0 → s (.h k') = .blk g' st' cs' → st' ≠ 0 → μ k g = some (c, L, A) → μ k' g' = some (c, L', A') → k = k'
  old : ∀ k g c L A, μ k g = some (c, L, A) → c < w.heap.size ∧ ¬ F c
  gen : ∀ k g st cs, s (.h k) = .blk g st cs → ∀ g', g < g' → μ k g' = none
  isb : ∀ k, ∃ g st cs, s (.h k) = .blk g st cs
  fb : ∀ c, F c → c < w.heap.size
structure Sim (F : Nat → Prop) (s : S) (μ : Mu) (a : Act) (w : World) : Prop where
  tm : ∀ i, Rep w μ (Mof F s μ) (s (.t i)) (a.tmps.getD i undef)
  hp : Hp F s μ w
  df : a.defers = []
structure Step (s : S) (μ : Mu) (w : World) (s' : S) (μ' : Mu) (w' : World) : Prop where
  mu : MuLe μ μ'
  ext : Ext (Wof s μ) w w'
  mof : ∀ c, c < w.heap.size → Wof s' μ' c → Wof s μ c
theorem Step.up {F : Nat → Prop} {s s' : S} {μ μ' : Mu} {w w' : World} (h : Step s μ w s' μ' w') : Up w μ (Mof F s μ) w' μ' (Mof F s' μ') :=
  ⟨h.ext.size, fun b hb hn => h.ext.block b hb fun hh => hn (.inr hh), h.mu, fun b hb hh => hh.imp id (h.mof b hb)⟩
theorem Step.refl (s : S) (μ : Mu) (w : World) : Step s μ w s μ w := ⟨fun _ _ _ h => h, Ext.refl _ _, fun _ _ h => h⟩
theorem Step.trans {s s' s'' : S} {μ μ' μ'' : Mu} {w w' w'' : World} (h : Step s μ w s' μ' w') (k : Step s' μ' w' s'' μ'' w'') : Step s μ w s'' μ'' w'' :=
  ⟨fun _ _ _ x => k.mu _ _ _ (h.mu _ _ _ x), h.ext.trans k.ext h.mof, fun c hc x => h.mof c hc (k.mof c (Nat.lt_of_lt_of_le hc h.ext.size) x)⟩
theorem Wof_t (s : S) (μ : Mu) (i : Nat) (v : AV) : Wof (upd s (.t i) v) μ = Wof s μ := by
  funext c; simp [Wof, upd]
theorem Mof_t (F : Nat → Prop) (s : S) (μ : Mu) (i : Nat) (v : AV) : Mof F (upd s (.t i) v) μ = Mof F s μ := by
  funext c; simp only [Mof, Wof_t]
theorem Hp_t {F : Nat → Prop} {s : S} {μ : Mu} {w : World} (h : Hp F s μ w) (i : Nat) (v : AV) : Hp F (upd s (.t i) v) μ w := by
  have e : ∀ k, upd s (.t i) v (.h k) = s (.h k) := fun k => by simp [upd]
  constructor
  · intro k g st cs hk hst
    rw [Mof_t]
    exact h.row k g st cs (by rw [← e k]; exact hk) hst
  · intro k g st cs k' g' st' cs'
    rw [e, e]
    exact h.inj k g st cs k' g' st' cs'
  · exact h.old
  · intro k g st cs hk
    exact h.gen k g st cs (by rw [← e k]; exact hk)
  · intro k
    rw [e]
    exact h.isb k
  · exact h.fb
theorem Step.t {s : S} {μ : Mu} {w : World} {s' : S} {μ' : Mu} {w' : World} (h : Step s μ w s' μ' w') (i : Nat) (v : AV) : Step s μ w (upd s' (.t i) v) μ' w' :=
  ⟨h.mu, h.ext, by rw [Wof_t]; exact h.mof⟩
def put (s : S) (d : Option Tmp) (v : AV) : S := match d with | some d => upd s (.t d) v | none => s
theorem Sim.put {F : Nat → Prop} {s s' : S} {μ μ' : Mu} {a : Act} {w w' : World} (h : Sim F s μ a w) (hst : Step s μ w s' μ' w') (ht : ∀ i, s' (.t i) = s (.t i)) (hh : Hp F s' μ' w') (d : Option Tmp) (hd : ∀ i, d = some i → i < a.tmps.size) {x : AV} {v : Value}
    (hv : Rep w' μ' (Mof F s' μ') x v) : Sim F (put s' d x) μ' (a.put d v) w' ∧ Step s μ w (put s' d x) μ' w' := by
  cases d with
  | none =>
    refine ⟨⟨fun i => ?_, hh, h.df⟩, hst⟩
    show Rep w' μ' (Mof F s' μ') (s' (.t i)) _
    rw [ht]
    exact Rep.mono hst.up _ _ (h.tm i)
  | some d =>
    refine ⟨⟨fun i => ?_, Hp_t hh d x, h.df⟩, hst.t d x⟩
    show Rep w' μ' (Mof F (upd s' (.t d) x) μ') (upd s' (.t d) x (.t i)) ((a.tmps.setIfInBounds d v).getD i undef)
    rw [Mof_t]
    by_cases e : i = d
    · subst e
      have hlt := hd i rfl
      rw [upd_same]
      simpa [Array.getD_eq_getD_getElem?, Array.getElem?_setIfInBounds, hlt] using hv
    · rw [upd_other _ _ (by simpa using e), ht]
      have : (a.tmps.setIfInBounds d v).getD i undef = a.tmps.getD i undef := by
        simp [Array.getD_eq_getD_getElem?, Ne.symm e]
      rw [this]
      exact Rep.mono hst.up _ _ (h.tm i)
theorem Hp.upd {F : Nat → Prop} {s : S} {μ : Mu} {w : World} (h : Hp F s μ w) {μ' : Mu} {w' : World} (k g st : Nat) (cs : List AV) (hk : s (.h k) = .blk g st cs) (g' st' : Nat) (cs' : List AV) (c' A' : Nat) (hgg : g ≤ g')
    (hmu : ∀ k1 g1, ¬ (k1 = k ∧ g1 = g') → μ' k1 g1 = μ k1 g1) (hnew : μ' k g' = some (c', cs'.length, A')) (hmono : g' = g → μ k g' = μ' k g')
    (hc : w.heap.size ≤ c' ∨ ∃ L A, st ≠ 0 ∧ μ k g = some (c', L, A) ∧ (st' = 2 → st = 2)) (hc' : c' < w'.heap.size)
    (hos : w'.os = w.os) (htape : w'.tape = w.tape) (hout : w'.output = w.output) (hsz : w.heap.size ≤ w'.heap.size)
    (hblk : ∀ b, b < w.heap.size → ¬ (st = 2 ∧ ∃ L A, μ k g = some (b, L, A)) → w'.heap[b]? = w.heap[b]?)
    (hrow : Up w μ (Mof F s μ) w' μ' (Mof F (Ab.upd s (.h k) (.blk g' st' cs')) μ') → st' ≠ 0 → ∃ arr e f, w'.heap[c']? = some (.cells arr e f) ∧ arr.size = A' ∧ cs'.length ≤ A' ∧
      (∀ o, o < A' → ¬ (f.1 ≤ o ∧ o < f.2)) ∧ ∀ (i : Nat) (x : AV), cs'[i]? = some x → x.one = true ∧ ∃ v, arr[i]? = some v ∧ Rep w' μ' (Mof F (Ab.upd s (.h k) (.blk g' st' cs')) μ') x v) :
    Hp F (Ab.upd s (.h k) (.blk g' st' cs')) μ' w' ∧ Step s μ w (Ab.upd s (.h k) (.blk g' st' cs')) μ' w' := by
  have ek : Ab.upd s (.h k) (.blk g' st' cs') (.h k) = .blk g' st' cs' := upd_same _ _ _
  have eo : ∀ k1, k1 ≠ k → Ab.upd s (.h k) (.blk g' st' cs') (.h k1) = s (.h k1) := fun k1 hne => upd_other _ _ (by simpa using hne)
  have hle : MuLe μ μ' := by
    intro k1 g1 c1 h1
    by_cases e : k1 = k ∧ g1 = g'
    · obtain ⟨rfl, rfl⟩ := e
      by_cases eg : g1 = g
      · rw [← hmono eg]; exact h1
      · rw [h.gen k1 g st cs hk g1 (by omega)] at h1; cases h1
    · rw [hmu k1 g1 e]; exact h1
  have hmof : ∀ c, c < w.heap.size → Wof (Ab.upd s (.h k) (.blk g' st' cs')) μ' c → Wof s μ c := by
    rintro c hlt ⟨k1, g1, cs1, L1, A1, h1, h2⟩
    by_cases e : k1 = k
    · subst e
      rw [ek] at h1
      cases h1
      rw [hnew] at h2
      cases h2
      rcases hc with hc | ⟨L, A, _, h3, h4⟩
      · omega
      · have := h4 rfl
        subst this
        exact ⟨k1, g, cs, L, A, hk, h3⟩
    · rw [eo k1 e] at h1
      rw [hmu k1 g1 (fun hh => e hh.1)] at h2
      exact ⟨k1, g1, cs1, L1, A1, h1, h2⟩
  have hext : Ext (Wof s μ) w w' := ⟨hos, htape, hout, hsz, fun b hb hM => hblk b hb fun ⟨h1, L, A, h2⟩ => hM ⟨k, g, cs, L, A, by rw [hk, h1], h2⟩⟩
  have hst : Step s μ w (Ab.upd s (.h k) (.blk g' st' cs')) μ' w' := ⟨hle, hext, hmof⟩
  refine ⟨⟨?_, ?_, ?_, ?_, ?_, ?_⟩, hst⟩
  · intro k1 g1 st1 cs1 h1 hst1
    by_cases e : k1 = k
    · subst e
      rw [ek] at h1
      cases h1
      obtain ⟨arr, el, f, h2⟩ := hrow hst.up hst1
      exact ⟨c', A', arr, el, f, hnew, h2⟩
    · rw [eo k1 e] at h1
      obtain ⟨c, A, arr, el, f, h2, h3, h4, h5, h6, h7⟩ := h.row k1 g1 st1 cs1 h1 hst1
      refine ⟨c, A, arr, el, f, by rw [hmu k1 g1 (fun hh => e hh.1)]; exact h2, ?_, h4, h5, h6, fun i x hx => ?_⟩
      · rw [hblk c (h.old _ _ _ _ _ h2).1 fun ⟨hs2, L, A2, hh⟩ => e (h.inj k1 g1 st1 cs1 k g st cs c _ _ L A2 h1 hst1 hk (by omega) h2 hh)]
        exact h3
      · obtain ⟨h8, v, h9, h10⟩ := h7 i x hx
        exact ⟨h8, v, h9, Rep.mono hst.up _ _ h10⟩
  · intro k1 g1 st1 cs1 k2 g2 st2 cs2 c L A L' A2 h1 hs1 h2 hs2 h3 h4
    by_cases e1 : k1 = k <;> by_cases e2 : k2 = k
    · omega
    · subst e1
      rw [ek] at h1
      cases h1
      rw [eo k2 e2] at h2
      rw [hmu k2 g2 (fun hh => e2 hh.1)] at h4
      rw [hnew] at h3
      cases h3
      exfalso
      rcases hc with hc | ⟨L3, A3, h5, h6, _⟩
      · have := (h.old _ _ _ _ _ h4).1; omega
      · exact e2 (h.inj k2 g2 st2 cs2 k1 g st cs c' _ _ _ _ h2 hs2 hk h5 h4 h6)
    · subst e2
      rw [ek] at h2
      cases h2
      rw [eo k1 e1] at h1
      rw [hmu k1 g1 (fun hh => e1 hh.1)] at h3
      rw [hnew] at h4
      cases h4
      exfalso
      rcases hc with hc | ⟨L3, A3, h5, h6, _⟩
      · have := (h.old _ _ _ _ _ h3).1; omega
      · exact e1 (h.inj k1 g1 st1 cs1 k2 g st cs c' _ _ _ _ h1 hs1 hk h5 h3 h6)
    · rw [eo k1 e1] at h1
      rw [eo k2 e2] at h2
      rw [hmu k1 g1 (fun hh => e1 hh.1)] at h3
      rw [hmu k2 g2 (fun hh => e2 hh.1)] at h4
      exact h.inj k1 g1 st1 cs1 k2 g2 st2 cs2 c _ _ _ _ h1 hs1 h2 hs2 h3 h4
  · intro k1 g1 c L A h1
    by_cases e : k1 = k ∧ g1 = g'
    · obtain ⟨rfl, rfl⟩ := e
      rw [hnew] at h1
      cases h1
      exact ⟨hc', by
        rcases hc with hc | ⟨L, A, _, hh, _⟩
        · intro hF; have := h.fb _ hF; omega
        · exact (h.old _ _ _ _ _ hh).2⟩
    · rw [hmu k1 g1 e] at h1
      exact ⟨Nat.lt_of_lt_of_le (h.old _ _ _ _ _ h1).1 hsz, (h.old _ _ _ _ _ h1).2⟩
  · intro k1 g1 st1 cs1 h1 g2 hg
    by_cases e : k1 = k
    · subst e
      rw [ek] at h1
      cases h1
      rw [hmu k1 g2 (fun hh => by omega)]
      exact h.gen k1 g st cs hk g2 (by omega)
    · rw [eo k1 e] at h1
      rw [hmu k1 g2 (fun hh => e hh.1)]
      exact h.gen k1 g1 st1 cs1 h1 g2 hg
  · intro k1
    by_cases e : k1 = k
    · subst e; exact ⟨g', st', cs', ek⟩
    · rw [eo k1 e]; exact h.isb k1
  · intro c hF
    exact Nat.lt_of_lt_of_le (h.fb c hF) hsz
mutual
def AV.pure : AV → Bool
  | .sc _ => true
  | .vs .. => true
  | .agg cs => AV.pureL cs
  | .tup cs => AV.pureL cs
  | _ => false
def AV.pureL : List AV → Bool
  | [] => true
  | x :: xs => x.pure && AV.pureL xs
end
theorem AV.pure_of_fz {x : AV} (h : x.fz = true) : x.pure = true := by cases x <;> simp_all [AV.fz, AV.pure]
section
variable {w : World} {μ μ' : Mu} {M M' : Nat → Prop}
mutual
theorem Rep.ghost (hM : ∀ b, M' b → M b) : ∀ (x : AV) (v : Value), x.pure = true → Rep w μ M x v → Rep w μ' M' x v
  | .sc u, v, _, h => by simpa [Rep] using h
  | .vs n xs, v, _, h => by
    simp only [Rep] at h ⊢
    obtain ⟨a, c, h1, h2, h3⟩ := h
    refine ⟨a, c, h1, h2, h3.imp id ?_⟩
    rintro ⟨b, o, h4, h5, h6⟩
    exact ⟨b, o, h4, fun hh => h5 (hM b hh), Row.ghost hM b xs o h6⟩
  | .hs .., v, hp, h => by simp [AV.pure] at hp
  | .hp .., v, hp, h => by simp [AV.pure] at hp
  | .vp .., v, hp, h => by simp [AV.pure] at hp
  | .agg cs, v, hp, h => by
    simp only [Rep] at h ⊢
    simp only [AV.pure] at hp
    obtain ⟨vs, h1, h2⟩ := h
    exact ⟨vs, h1, RepL.ghost hM cs vs.toList hp h2⟩
  | .tup cs, v, hp, h => by
    simp only [Rep] at h ⊢
    simp only [AV.pure] at hp
    obtain ⟨vs, h1, h2⟩ := h
    exact ⟨vs, h1, RepL.ghost hM cs vs.toList hp h2⟩
  | .blk .., v, hp, h => by simp [AV.pure] at hp
theorem RepL.ghost (hM : ∀ b, M' b → M b) : ∀ (xs : List AV) (vs : List Value), AV.pureL xs = true → RepL w μ M xs vs → RepL w μ' M' xs vs
  | [], [], _, _ => by simp [RepL]
  | x :: xs, v :: vs, hp, h => by
    simp only [RepL] at h ⊢
    simp only [AV.pureL, Bool.and_eq_true] at hp
    exact ⟨Rep.ghost hM x v hp.1 h.1, RepL.ghost hM xs vs hp.2 h.2⟩
  | [], _ :: _, _, h => by simp [RepL] at h
  | _ :: _, [], _, h => by simp [RepL] at h
theorem Row.ghost (hM : ∀ b, M' b → M b) (b : Nat) : ∀ (xs : List AV) (o : Nat), Row w μ M b o xs → Row w μ' M' b o xs
  | [], o, _ => by simp [Row]
  | x :: xs, o, h => by
    simp only [Row] at h ⊢
    obtain ⟨⟨h1, v, h2, h3⟩, h4⟩ := h
    exact ⟨⟨h1, v, h2, Rep.ghost hM x v (AV.pure_of_fz h1) h3⟩, Row.ghost hM b xs (o + 1) h4⟩
end
end
abbrev Asg := List (Loc × AV)
def app (s : S) (A : Asg) : S := A.foldl (fun s p => upd s p.1 p.2) s
theorem app_nil (s : S) : app s [] = s := rfl
theorem app_cons (s : S) (p : Loc × AV) (A : Asg) : app s (p :: A) = app (upd s p.1 p.2) A := rfl
theorem app_append (s : S) (A B : Asg) : app s (A ++ B) = app (app s A) B := by simp [app]
theorem app_not {l : Loc} : ∀ {A : Asg} {s : S}, l ∉ A.map (·.1) → app s A l = s l
  | [], s, _ => rfl
  | (m, v) :: A, s, h => by
    simp only [List.map_cons, List.mem_cons, not_or] at h
    rw [app_cons, app_not h.2, upd_other _ _ h.1]
theorem app_congr {l : Loc} : ∀ {A : Asg} {s s' : S}, (s l = s' l ∨ l ∈ A.map (·.1)) → app s A l = app s' A l
  | [], s, s', h => by simpa [app] using h
  | (m, v) :: A, s, s', h => by
    rw [app_cons, app_cons]
    apply app_congr
    by_cases e : l = m
    · subst e; left; simp [upd]
    · rcases h with h | h
      · left; simp [upd, e, h]
      · right; simpa [e] using h
def foldS (s : S) (fs : List (Bool × Asg)) : S := fs.foldl (fun s p => if p.1 then app s p.2 else s) s
theorem foldS_cons (s : S) (p : Bool × Asg) (fs : List (Bool × Asg)) : foldS s (p :: fs) = foldS (if p.1 then app s p.2 else s) fs := rfl
theorem foldS_at {l : Loc} : ∀ {fs gs : List (Bool × Asg)} {s s' : S}, fs.length = gs.length → s l = s' l →
    (∀ (i : Nat) (b : Bool) (A : Asg) (b' : Bool) (A' : Asg), fs[i]? = some (b, A) → gs[i]? = some (b', A') → A = A' ∧ (b ≠ b' → l ∉ A.map (·.1))) → foldS s fs l = foldS s' gs l
  | [], [], s, s', _, h, _ => h
  | (b, A) :: fs, (b', A') :: gs, s, s', hl, h, hd => by
    rw [foldS_cons, foldS_cons]
    obtain ⟨e, h0⟩ := hd 0 b A b' A' (by simp) (by simp)
    subst e
    refine foldS_at (by simpa using hl) ?_ fun i c B c' B' h1 h2 => hd (i + 1) c B c' B' (by simpa using h1) (by simpa using h2)
    by_cases e : b = b'
    · subst e
      cases b
      · exact h
      · exact app_congr (.inl h)
    · have hn := h0 e
      cases b <;> cases b' <;> simp_all [app_not]
  | [], _ :: _, _, _, h, _, _ => by simp at h
  | _ :: _, [], _, _, h, _, _ => by simp at h
theorem foldS_append (s : S) (fs gs : List (Bool × Asg)) : foldS s (fs ++ gs) = foldS (foldS s fs) gs := by simp [foldS]
theorem foldS_quiet {l : Loc} : ∀ {fs : List (Bool × Asg)} {s : S}, (∀ A, (true, A) ∈ fs → l ∉ A.map (·.1)) → foldS s fs l = s l
  | [], s, _ => rfl
  | (b, A) :: fs, s, h => by
    rw [foldS_cons, foldS_quiet fun A hA => h A (by simp [hA])]
    cases b
    · rfl
    · exact app_not (h A (by simp))
theorem foldS_more {s : S} {fs gs : List (Bool × Asg)} {A : Asg} (h : ∀ l ∈ A.map (·.1), ∀ B, (true, B) ∈ gs → l ∉ B.map (·.1)) :
    foldS s (fs ++ (true, A) :: gs) = app (foldS s (fs ++ (false, A) :: gs)) A := by
  funext l
  rw [foldS_append, foldS_append, foldS_cons, foldS_cons]
  simp only [if_true, Bool.false_eq_true, if_false]
  by_cases hl : l ∈ A.map (·.1)
  · rw [foldS_quiet (h l hl)]
    exact app_congr (.inr hl)
  · rw [app_not hl]
    refine foldS_at rfl (app_not hl) fun i b B b' B' h1 h2 => ?_
    rw [h1] at h2
    cases h2
    exact ⟨rfl, fun hh => absurd rfl hh⟩
abbrev Ent := List Loc × List Loc
def apart (a b : List Loc) : Bool := a.all fun l => !b.contains l
def edgesOf (o : Oper) : List Nat := (o.after.toList.filter (Region.binds .any)).map (·.on)
def masks : List Oper → List Nat → List Nat
  | [], acc => acc
  | o :: ops, acc => masks ops (acc ++ [(edgesOf o).foldl (fun m e => m ||| 2 ^ e ||| acc.getD e 0) 0])
def okPairs (ms : List Nat) (L : List Ent) : Bool :=
  (List.range L.length).all fun j => (List.range j).all fun i =>
    (ms.getD j 0).testBit i || (match L[i]?, L[j]? with
      | some (ri, wi), some (rj, wj) => apart wi rj && apart wi wj && apart wj ri
      | _, _ => true)
def edgesOK (ops : List Oper) : Bool := ops.zipIdx.all fun (o, i) => (edgesOf o).all (· < i)
def okLog (ops : Array Oper) (L : List Ent) : Bool := edgesOK ops.toList && okPairs (masks ops.toList []) L
theorem apart_spec {a b : List Loc} (h : apart a b = true) {l : Loc} (ha : l ∈ a) : l ∉ b := by
  simp only [apart, List.all_eq_true] at h
  simpa using h l ha
def Down (ops : List Oper) (D : Nat → Prop) : Prop := ∀ (i : Nat) (o : Oper), ops[i]? = some o → D i → ∀ e ∈ edgesOf o, D e
theorem foldl_mask (acc : List Nat) : ∀ (es : List Nat) (m j : Nat), (es.foldl (fun m e => m ||| 2 ^ e ||| acc.getD e 0) m).testBit j = true →
    m.testBit j = true ∨ ∃ e ∈ es, j = e ∨ (acc.getD e 0).testBit j = true
  | [], m, j, h => .inl h
  | e :: es, m, j, h => by
    rcases foldl_mask acc es _ j h with h | ⟨e', h1, h2⟩
    · simp only [Nat.testBit_or, Bool.or_eq_true] at h
      rcases h with (h | h) | h
      · exact .inl h
      · refine .inr ⟨e, by simp, .inl ?_⟩
        rw [Nat.testBit_two_pow] at h
        simpa [eq_comm] using h
      · exact .inr ⟨e, by simp, .inr h⟩
    · exact .inr ⟨e', by simp [h1], h2⟩
theorem masks_spec {D : Nat → Prop} : ∀ (ops : List Oper) (acc : List Nat) (full : List Oper), full.drop acc.length = ops → Down full D →
    (∀ j i, D j → (acc.getD j 0).testBit i = true → D i) → ∀ j i, D j → ((masks ops acc).getD j 0).testBit i = true → D i
  | [], acc, full, _, _, h => h
  | o :: ops, acc, full, hd, hD, h => by
    unfold masks
    have ho : full[acc.length]? = some o := by
      have : (full.drop acc.length)[0]? = some o := by rw [hd]; rfl
      simpa using this
    refine masks_spec ops _ full ?_ hD ?_
    · simp only [List.length_append, List.length_cons, List.length_nil]
      rw [← List.drop_drop, hd]
      rfl
    · intro j i hj hb
      by_cases e : j < acc.length
      · refine h j i hj ?_
        simpa [List.getD_eq_getElem?_getD, List.getElem?_append_left e] using hb
      · by_cases e2 : j = acc.length
        · subst e2
          have hb' : ((edgesOf o).foldl (fun m e => m ||| 2 ^ e ||| acc.getD e 0) 0).testBit i = true := by
            simpa [List.getD_eq_getElem?_getD] using hb
          rcases foldl_mask acc _ _ _ hb' with h1 | ⟨e3, h2, h3⟩
          · simp at h1
          · have hde := hD _ _ ho hj e3 h2
            rcases h3 with rfl | h3
            · exact hde
            · exact h e3 i hde h3
        · exfalso
          rw [List.getD_eq_getElem?_getD, List.getElem?_eq_none (by simp; omega)] at hb
          simp at hb
theorem okPairs_spec {ms : List Nat} {L : List Ent} (h : okPairs ms L = true) {i j : Nat} (hij : i < j) (hj : j < L.length) {ri wi rj wj : List Loc} (hi : L[i]? = some (ri, wi)) (hj' : L[j]? = some (rj, wj)) :
    (ms.getD j 0).testBit i = true ∨ (apart wi rj = true ∧ apart wi wj = true ∧ apart wj ri = true) := by
  simp only [okPairs, List.all_eq_true, List.mem_range] at h
  have := h j hj i hij
  rw [hi, hj'] at this
  simpa [and_assoc] using this
section region
variable {P : Program} {F : Nat → Prop} {nt : Nat} {ops : Array Oper}
def stAt (s : S) (As : List Asg) (j : Nat) : S := (As.take j).foldl app s
def flags (D : Nat → Bool) (As : List Asg) : List (Bool × Asg) := As.zipIdx.map fun p => (D p.2, p.1)
theorem flags_get (D : Nat → Bool) (As : List Asg) (i : Nat) : (flags D As)[i]? = (As[i]?).map fun A => (D i, A) := by
  simp only [flags, List.getElem?_map, List.getElem?_zipIdx, Option.map_map]
  rcases As[i]? with _ | A <;> simp
theorem flags_length (D : Nat → Bool) (As : List Asg) : (flags D As).length = As.length := by simp [flags]
theorem foldS_all : ∀ (As : List Asg) (s : S) (fs : List (Bool × Asg)), fs.map (·.2) = As → (∀ p ∈ fs, p.1 = true) → foldS s fs = As.foldl app s
  | [], s, [], _, _ => rfl
  | A :: As, s, p :: fs, h, ht => by
    simp only [List.map_cons, List.cons.injEq] at h
    rw [foldS_cons, ht p (by simp), h.1]
    exact foldS_all As (app s A) fs h.2 fun q hq => ht q (by simp [hq])
  | [], _, _ :: _, h, _ => by simp at h
  | _ :: _, _, [], h, _ => by simp at h
theorem foldS_none : ∀ (s : S) (fs : List (Bool × Asg)), (∀ p ∈ fs, p.1 = false) → foldS s fs = s
  | s, [], _ => rfl
  | s, p :: fs, ht => by
    rw [foldS_cons, ht p (by simp)]
    exact foldS_none s fs fun q hq => ht q (by simp [hq])
theorem flags_map (D : Nat → Bool) (As : List Asg) : (flags D As).map (·.2) = As := by
  apply List.ext_getElem?
  intro i
  rw [List.getElem?_map, flags_get]
  rcases As[i]? with _ | A <;> simp
theorem flags_take (As : List Asg) (i : Nat) (s : S) : foldS s (flags (fun j => decide (j < i)) As) = stAt s As i := by
  have : flags (fun j => decide (j < i)) As = flags (fun j => decide (j < i)) (As.take i) ++ ((flags (fun j => decide (j < i)) As).drop i) := by
    apply List.ext_getElem?
    intro j
    by_cases h : j < (As.take i).length
    · rw [List.getElem?_append_left (by rw [flags_length]; exact h), flags_get, flags_get, List.getElem?_take, if_pos (by simp at h; omega)]
    · rw [List.getElem?_append_right (by rw [flags_length]; omega), flags_length, List.getElem?_drop]
      simp only [List.length_take] at h ⊢
      by_cases h2 : i ≤ As.length
      · rw [Nat.min_eq_left h2, show i + (j - i) = j by omega]
      · rw [flags_get, flags_get, List.getElem?_eq_none (by omega), List.getElem?_eq_none (by omega)]; rfl
  rw [this, foldS_append, foldS_none]
  · exact foldS_all _ _ _ (flags_map _ _) fun p hp => by
      obtain ⟨j, hj⟩ := List.getElem?_of_mem hp
      rw [flags_get, List.getElem?_take] at hj
      split at hj
      · rename_i hlt
        rcases hA : As[j]? with _ | A <;> rw [hA] at hj <;> simp at hj
        rw [← hj]; simpa using hlt
      · simp at hj
  · intro p hp
    obtain ⟨j, hj⟩ := List.getElem?_of_mem hp
    rw [List.getElem?_drop, flags_get] at hj
    rcases hA : As[i + j]? with _ | A <;> rw [hA] at hj <;> simp at hj
    rw [← hj]; simp
def lsD (listed : Array Bool) (j : Nat) : Bool := listed.getD j false
theorem region_any {Q : Exit → Act → World → Prop} (As : List Asg) (Es : List Ent) (s0 : S) (μ0 : Mu) (w0 : World)
    (hlA : As.length = ops.size) (hlE : Es.length = ops.size) (hW : ∀ (j : Nat) (A : Asg) (E : Ent), As[j]? = some A → Es[j]? = some E → E.2 = A.map (·.1))
    (hok : okLog ops Es = true)
    (hdo : ∀ (i : Nat) (A : Asg) (E : Ent), As[i]? = some A → Es[i]? = some E → ∀ (s : S) (μ : Mu) (a : Act) (w : World) (K : Act → World → Prop),
      (∀ l ∈ E.1, s l = stAt s0 As i l) → Sim F s μ a w → a.tmps.size = nt →
      (∀ a' w' μ', Sim F (app s A) μ' a' w' → Step s μ w (app s A) μ' w' → a'.tmps.size = nt → K a' w') → wpOp P ops Q i K a w)
    (hend : ∀ a' w' μ', Sim F (As.foldl app s0) μ' a' w' → Step s0 μ0 w0 (As.foldl app s0) μ' w' → a'.tmps.size = nt → Q .normal a' w') :
    ∀ (fuel : Nat) (listed : Array Bool) (μ : Mu) (a : Act) (w : World), listed.size = ops.size → ops.size ≤ fuel + (listed.toList.filter id).length →
      Down ops.toList (fun j => lsD listed j = true) → Sim F (foldS s0 (flags (lsD listed) As)) μ a w → Step s0 μ0 w0 (foldS s0 (flags (lsD listed) As)) μ w → a.tmps.size = nt →
      wpAny P .any ops Q fuel listed a w := by
  have hok' := hok
  simp only [okLog, Bool.and_eq_true] at hok'
  obtain ⟨hed, hpr⟩ := hok'
  have hedge : ∀ (i : Nat) (o : Oper), ops.toList[i]? = some o → ∀ e ∈ edgesOf o, e < i := by
    intro i o ho e he
    simp only [edgesOK, List.all_eq_true, decide_eq_true_eq] at hed
    exact hed (o, i) (List.mem_zipIdx_iff_getElem?.2 ho) e he
  have hfull : ∀ (listed : Array Bool), listed.size = ops.size → Region.ready .any ops listed = [] → ∀ i, i < ops.size → lsD listed i = true := by
    intro listed hls hr i
    induction i using Nat.strongRecOn with
    | _ i ih =>
      intro hi
      rcases hli : lsD listed i with _ | _
      · exfalso
        have hmem : i ∈ Region.ready .any ops listed := by
          rw [Region.ready, List.mem_filter]
          refine ⟨by simpa using hi, ?_⟩
          have hnl : listed.getD i true = false := by
            simp only [lsD, Array.getD_eq_getD_getElem?] at hli ⊢
            rw [Array.getElem?_eq_getElem (by omega)] at hli ⊢
            simpa using hli
          have ho : ops[i]? = some ops[i] := Array.getElem?_eq_getElem hi
          rw [hnl, ho]
          simp only [Bool.not_false, Bool.true_and, Option.map_some, Option.getD_some]
          rw [Array.all_eq_true_iff_forall_mem]
          intro e he
          rcases hb : Region.binds .any e with _ | _
          · rfl
          · simp only [Bool.not_true, Bool.false_or]
            have hmem : e.on ∈ edgesOf ops[i] := by
              simp only [edgesOf, List.mem_map, List.mem_filter]
              exact ⟨e, ⟨Array.mem_toList_iff.2 he, hb⟩, rfl⟩
            have hlt := hedge i ops[i] (by simpa using ho) e.on hmem
            exact ih e.on hlt (by omega)
        rw [hr] at hmem
        cases hmem
      · rfl
  have hfin : ∀ (listed : Array Bool) (μ : Mu) (a : Act) (w : World), listed.size = ops.size → Region.ready .any ops listed = [] →
      Sim F (foldS s0 (flags (lsD listed) As)) μ a w → Step s0 μ0 w0 (foldS s0 (flags (lsD listed) As)) μ w → a.tmps.size = nt → Q .normal a w := by
    intro listed μ a w hls hr hsim hst hnt
    have hall := hfull listed hls hr
    have e : foldS s0 (flags (lsD listed) As) = As.foldl app s0 := foldS_all _ _ _ (flags_map _ _) fun p hp => by
      obtain ⟨j, hj⟩ := List.getElem?_of_mem hp
      rw [flags_get] at hj
      rcases hA : As[j]? with _ | A <;> rw [hA] at hj <;> simp at hj
      rw [← hj]
      exact hall j (by rw [← hlA]; exact (List.getElem?_eq_some_iff.1 hA).1)
    rw [e] at hsim hst
    exact hend _ _ _ hsim hst hnt
  intro fuel
  induction fuel with
  | zero =>
    intro listed μ a w hls hfu hdown hsim hst hnt
    have hr : Region.ready .any ops listed = [] := by
      have hl : (listed.toList.filter id).length ≤ listed.toList.length := List.length_filter_le _ _
      have hl2 : listed.toList.length = ops.size := by simpa using hls
      have he : (listed.toList.filter id).length = listed.toList.length := by omega
      have hall := List.length_filter_eq_length_iff.1 he
      rw [Region.ready, List.filter_eq_nil_iff]
      intro i hi
      have hi' : i < listed.size := by rw [hls]; simpa using hi
      have : listed.getD i true = true := by
        rw [Array.getD_eq_getD_getElem?, Array.getElem?_eq_getElem hi']
        exact hall _ (by simp)
      simp [this]
    exact ⟨hr, hfin listed μ a w hls hr hsim hst hnt⟩
  | succ fuel ih =>
    intro listed μ a w hls hfu hdown hsim hst hnt
    refine ⟨fun hr => hfin listed μ a w hls hr hsim hst hnt, fun i hi => ?_⟩
    rw [Region.ready, List.mem_filter] at hi
    obtain ⟨hi1, hi2⟩ := hi
    have hin : i < ops.size := by simpa using hi1
    simp only [Bool.and_eq_true, Bool.not_eq_true'] at hi2
    obtain ⟨hnl, hedges⟩ := hi2
    have hli : lsD listed i = false := by
      simp only [lsD, Array.getD_eq_getD_getElem?] at hnl ⊢
      rw [Array.getElem?_eq_getElem (by omega)] at hnl ⊢
      simpa using hnl
    have ho : ops[i]? = some ops[i] := Array.getElem?_eq_getElem hin
    have hdi : ∀ e ∈ edgesOf ops[i], lsD listed e = true := by
      intro e he
      rw [ho] at hedges
      simp only [Option.map_some, Option.getD_some] at hedges
      rw [Array.all_eq_true_iff_forall_mem] at hedges
      simp only [edgesOf, List.mem_map, List.mem_filter] at he
      obtain ⟨ed, ⟨h1, h2⟩, rfl⟩ := he
      have := hedges ed (by simpa using h1)
      rw [h2] at this
      simpa [lsD] using this
    have hdown' : Down ops.toList (fun j => lsD (listed.setIfInBounds i true) j = true) := by
      intro j o hj hD e he
      by_cases hji : j = i
      · subst hji
        have : o = ops[j] := by
          have : ops[j]? = some o := by simpa using hj
          rw [ho] at this
          exact (Option.some.inj this).symm
        subst this
        exact getD_set_true (hdi e he)
      · have : lsD listed j = true := by
          have h0 : lsD (listed.setIfInBounds i true) j = true := hD
          unfold lsD at h0 ⊢
          rwa [getD_set_ne false (by omega)] at h0
        exact getD_set_true (hdown j o hj this e he)
    have hbef : ∀ j, ((masks ops.toList []).getD i 0).testBit j = true → j ≠ i → lsD listed j = true := by
      intro j hb hji
      have := masks_spec (D := fun j => lsD (listed.setIfInBounds i true) j = true) ops.toList [] ops.toList (by simp) hdown'
        (fun j i _ h => by simp at h) i j (by
          show (listed.setIfInBounds i true).getD i false = true
          rw [Array.getD_eq_getD_getElem?, Array.getElem?_setIfInBounds]
          simp [show i < listed.size by omega]) hb
      have h0 : lsD (listed.setIfInBounds i true) j = true := this
      unfold lsD at h0 ⊢
      rwa [getD_set_ne false (by omega)] at h0
    have hbeh : ∀ j, lsD listed j = true → ((masks ops.toList []).getD j 0).testBit i = false := by
      intro j hj
      rcases hb : ((masks ops.toList []).getD j 0).testBit i with _ | _
      · rfl
      · have := masks_spec (D := fun j => lsD listed j = true) ops.toList [] ops.toList (by simp) hdown (fun j i _ h => by simp at h) j i hj hb
        rw [hli] at this
        cases this
    have hAi : As[i]? = some As[i] := List.getElem?_eq_getElem (by omega)
    have hEi : Es[i]? = some Es[i] := List.getElem?_eq_getElem (by omega)
    have hWi := hW i _ _ hAi hEi
    have hrel : ∀ j A, As[j]? = some A → j ≠ i → lsD listed j ≠ decide (j < i) → (∀ l ∈ Es[i].1, l ∉ A.map (·.1)) ∧ (∀ l ∈ As[i].map (·.1), l ∉ A.map (·.1)) := by
      intro j A hA hji hne
      have hjl : j < As.length := (List.getElem?_eq_some_iff.1 hA).1
      have hEj : Es[j]? = some Es[j] := List.getElem?_eq_getElem (by omega)
      have hWj := hW j _ _ hA hEj
      by_cases hlt : j < i
      · have hlj : lsD listed j = false := by
          rcases h : lsD listed j with _ | _
          · rfl
          · rw [h] at hne; exact absurd (by simp [hlt]) hne
        have hEj' : Es[j]? = some (Es[j].1, Es[j].2) := hEj
        have hEi' : Es[i]? = some (Es[i].1, Es[i].2) := hEi
        rcases okPairs_spec hpr hlt (by omega) hEj' hEi' with h | ⟨h1, h2, h3⟩
        · rw [hbef j h hji] at hlj; cases hlj
        · rw [hWj] at h1 h2
          refine ⟨fun l hl hm => apart_spec h1 hm hl, fun l hl hm => ?_⟩
          rw [← hWi] at hl
          exact apart_spec h2 hm hl
      · have hlj : lsD listed j = true := by
          rcases h : lsD listed j with _ | _
          · rw [h] at hne; exact absurd (by simp; omega) hne
          · rfl
        have hEj' : Es[j]? = some (Es[j].1, Es[j].2) := hEj
        have hEi' : Es[i]? = some (Es[i].1, Es[i].2) := hEi
        rcases okPairs_spec hpr (show i < j by omega) (by omega) hEi' hEj' with h | ⟨h1, h2, h3⟩
        · rw [hbeh j hlj] at h; cases h
        · rw [hWj] at h2 h3
          refine ⟨fun l hl hm => apart_spec h3 hm hl, fun l hl => ?_⟩
          rw [← hWi] at hl
          exact apart_spec h2 hl
    have hread : ∀ l ∈ Es[i].1, foldS s0 (flags (lsD listed) As) l = stAt s0 As i l := by
      intro l hl
      rw [← flags_take]
      refine foldS_at (by simp [flags_length]) rfl fun j b A b' A' h1 h2 => ?_
      rw [flags_get] at h1 h2
      rcases hA : As[j]? with _ | B <;> rw [hA] at h1 h2 <;> simp at h1 h2
      obtain ⟨rfl, rfl⟩ := h1
      obtain ⟨rfl, rfl⟩ := h2
      refine ⟨rfl, fun hne => ?_⟩
      by_cases hji : j = i
      · subst hji
        rw [hli] at hne
        simp at hne
      · exact (hrel j _ hA hji hne).1 l hl
    have hmore : app (foldS s0 (flags (lsD listed) As)) As[i] = foldS s0 (flags (lsD (listed.setIfInBounds i true)) As) := by
      funext l
      by_cases hl : l ∈ As[i].map (·.1)
      ·
        have e1 : flags (lsD (listed.setIfInBounds i true)) As = (flags (lsD (listed.setIfInBounds i true)) As).take i ++ (true, As[i]) :: (flags (lsD (listed.setIfInBounds i true)) As).drop (i + 1) := by
          conv => lhs; rw [← List.take_append_drop i (flags (lsD (listed.setIfInBounds i true)) As)]
          congr 1
          rw [List.drop_eq_getElem_cons (by rw [flags_length]; omega)]
          congr 1
          have := flags_get (lsD (listed.setIfInBounds i true)) As i
          rw [hAi, List.getElem?_eq_getElem (by rw [flags_length]; omega)] at this
          simp only [Option.map_some, Option.some.injEq] at this
          rw [this]
          congr 1
          show (listed.setIfInBounds i true).getD i false = true
          rw [Array.getD_eq_getD_getElem?, Array.getElem?_setIfInBounds]
          simp [show i < listed.size by omega]
        rw [e1, foldS_append, foldS_cons]
        simp only [if_true]
        rw [foldS_quiet]
        · exact app_congr (.inr hl)
        · intro B hB
          obtain ⟨j, hj⟩ := List.getElem?_of_mem hB
          rw [List.getElem?_drop, flags_get] at hj
          rcases hA : As[i + 1 + j]? with _ | C <;> rw [hA] at hj <;> simp at hj
          obtain ⟨h1, rfl⟩ := hj
          have h2 : lsD listed (i + 1 + j) = true := by
            unfold lsD at h1 ⊢
            rwa [getD_set_ne false (by omega)] at h1
          exact (hrel _ _ hA (by omega) (by rw [h2]; simp; omega)).2 l hl
      · rw [app_not hl]
        refine foldS_at (by simp [flags_length]) rfl fun j b A b' A' h1 h2 => ?_
        rw [flags_get] at h1 h2
        rcases hA : As[j]? with _ | B <;> rw [hA] at h1 h2 <;> simp at h1 h2
        obtain ⟨rfl, rfl⟩ := h1
        obtain ⟨rfl, rfl⟩ := h2
        refine ⟨rfl, fun hne => ?_⟩
        by_cases hji : j = i
        · subst hji
          rw [hAi] at hA
          cases hA
          exact hl
        · exfalso
          apply hne
          unfold lsD
          rw [getD_set_ne false (by omega)]
    refine hdo i _ _ hAi hEi _ μ a w _ hread hsim hnt fun a' w' μ' hs hst' hnt' => ?_
    rw [hmore] at hs hst'
    refine ih _ μ' a' w' (by simpa using hls) ?_ hdown' hs (hst.trans hst') hnt'
    have hcount : (listed.toList.filter id).length + 1 ≤ ((listed.setIfInBounds i true).toList.filter id).length := by
      have hil : i < listed.toList.length := by simp; omega
      have hv : listed.toList[i] = false := by
        have := hli
        simp only [lsD, Array.getD_eq_getD_getElem?] at this
        rw [Array.getElem?_eq_getElem (by omega)] at this
        simpa using this
      have e1 : listed.toList = listed.toList.take i ++ false :: listed.toList.drop (i + 1) := by
        conv => lhs; rw [← List.take_append_drop i listed.toList]
        rw [List.drop_eq_getElem_cons hil, hv]
      have e2 : (listed.setIfInBounds i true).toList = listed.toList.take i ++ true :: listed.toList.drop (i + 1) := by
        rw [Array.toList_setIfInBounds, List.set_eq_take_append_cons_drop, if_pos hil]
      rw [e2]
      conv => lhs; rw [e1]
      simp
      omega
    omega
end region
end Go.Ab
end

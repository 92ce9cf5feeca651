import Derived.Test.YtiamjfckgmnijaaGreatDoorFnC
set_option linter.all false
section
namespace Go.Ab
open Go
structure ES where
  t : List (Nat × AV)
  h : List (Nat × AV)
def eget (d : AV) : List (Nat × AV) → Nat → AV
  | [], _ => d
  | (k, v) :: l, i => if k = i then v else eget d l i
def eput : List (Nat × AV) → Nat → AV → List (Nat × AV)
  | [], i, x => [(i, x)]
  | (k, v) :: l, i, x => if k = i then (k, x) :: l else (k, v) :: eput l i x
theorem eget_put (d : AV) : ∀ (l : List (Nat × AV)) (i j : Nat) (x : AV), eget d (eput l i x) j = if j = i then x else eget d l j
  | [], i, j, x => by
    simp only [eput, eget]
    by_cases h : i = j
    · subst h; simp
    · rw [if_neg h, if_neg (Ne.symm h)]
  | (k, v) :: l, i, j, x => by
    simp only [eput]
    by_cases h : k = i
    · subst h
      rw [if_pos rfl]
      simp only [eget]
      by_cases h1 : k = j
      · subst h1; simp
      · rw [if_neg h1, if_neg (Ne.symm h1), if_neg h1]
    · rw [if_neg h]
      simp only [eget]
      rw [eget_put d l i j x]
      by_cases h1 : k = j
      · subst h1
        rw [if_pos rfl, if_neg h, if_pos rfl]
      · rw [if_neg h1, if_neg h1]
def ES.s (e : ES) : S
  | .t i => eget (.sc undef) e.t i
  | .h k => eget (.blk 0 0 []) e.h k
def ES.putT (e : ES) (i : Nat) (x : AV) : ES := ⟨eput e.t i x, e.h⟩
def ES.putH (e : ES) (i : Nat) (x : AV) : ES := ⟨e.t, eput e.h i x⟩
theorem ES.s_putT (e : ES) (i : Nat) (x : AV) : (e.putT i x).s = upd e.s (.t i) x := by
  funext l
  cases l with
  | t j => simp only [ES.s, ES.putT, upd, eget_put, Loc.t.injEq]
  | h k => simp [ES.s, ES.putT, upd]
theorem ES.s_putH (e : ES) (i : Nat) (x : AV) : (e.putH i x).s = upd e.s (.h i) x := by
  funext l
  cases l with
  | t j => simp [ES.s, ES.putH, upd]
  | h k => simp only [ES.s, ES.putH, upd, eget_put, Loc.h.injEq]
def ES.does (e : ES) : Asg → ES
  | [] => e
  | (.t i, v) :: A => (e.putT i v).does A
  | (.h i, v) :: A => (e.putH i v).does A
theorem ES.s_does : ∀ (A : Asg) (e : ES), (e.does A).s = app e.s A
  | [], e => rfl
  | (.t i, v) :: A, e => by rw [ES.does, ES.s_does A, ES.s_putT]; rfl
  | (.h i, v) :: A, e => by rw [ES.does, ES.s_does A, ES.s_putH]; rfl
abbrev CE := Option Tmp → FuncId → S → (Nat → AV) → List AV → Option Eff
def CE.ok (P : Program) (c : CE) : Prop := ∀ d f s h args v ups, c d f s h args = some (v, ups) → CallPure P s h f args v ups ∨ CallMore P 0 d s h f args v ups
def eStep (P : Program) (c : CE) (o : Oper) (s : S) (h : Nat → AV) : Option Eff :=
  match o.op with
  | .call ⟨.value (.func f), args, _⟩ => c o.dst f s h (args.toList.map (ev s))
  | op => aeff P 0 op o.dst (ev s) h
def eDoes (P : Program) (c : CE) (ops : Array Oper) (o : Oper) (s : S) (h : Nat → AV) : Option Asg :=
  match o.guard with
  | none => (eStep P c o s h).map fun r => mkA o.dst r.1 r.2
  | some (j, b) => match ayield ops s j with
    | some y => if y = some b then (eStep P c o s h).map fun r => mkA o.dst r.1 r.2 else some (mkA o.dst (.sc undef) [])
    | none => none
def eOps0 (P : Program) (c : CE) (ops : Array Oper) : List Oper → ES → Option ES
  | [], e => some e
  | o :: rest, e => match eDoes P c ops o e.s (hall e.s) with
    | some A => eOps0 P c ops rest (e.does A)
    | none => none
def eOps (P : Program) (c : CE) (ops : Array Oper) : List Oper → List Ent → ES → Option (List Ent × ES)
  | [], L, e => some (L, e)
  | o :: rest, L, e => match eDoes P c ops o e.s (hrst 0 o e.s) with
    | some A => eOps P c ops rest (L ++ [(readsOf 0 ops o e.s, A.map (·.1))]) (e.does A)
    | none => none
def eLoop (r : ES → Option (Exit × ES)) : Nat → ES → Option (Exit × ES)
  | 0, _ => none
  | n + 1, e => match r e with
    | some (.normal, e') => eLoop r n e'
    | x => x
def eCode (P : Program) (c : CE) (n : Nat) : Code → ES → Option (Exit × ES)
  | .skip, e => some (.normal, e)
  | .region _ ops false, e => (eOps0 P c ops ops.toList e).map fun e => (.normal, e)
  | .region _ ops true, e => match eOps P c ops ops.toList [] e with
    | some (L, e) => if okLog ops L = true then some (.normal, e) else none
    | none => none
  | .seq x y, e => match eCode P c n x e with
    | some (.normal, e') => eCode P c n y e'
    | r => r
  | .cond q x y, e => match ev e.s q with
    | .sc (.bool true) => eCode P c n x e
    | .sc (.bool false) => eCode P c n y e
    | _ => none
  | .block id x, e => match eCode P c n x e with
    | some (.exit id', e') => if id' = id then some (.normal, e') else some (.exit id', e')
    | r => r
  | .loop x, e => eLoop (eCode P c n x) n e
  | .exit id, e => some (.exit id, e)
  | .ret, e => some (.ret, e)
  | _, _ => none
section
variable {P : Program} {c : CE}
theorem eStep_ok (hc : c.ok P) {o : Oper} {s : S} {h : Nat → AV} {v : AV} {ups : List (Nat × AV)} (he : eStep P c o s h = some (v, ups)) : AStep P 0 o s h v ups := by
  unfold eStep at he
  unfold AStep
  split at he
  · rename_i f args ts ho
    first
      | (rw [ho]; exact hc _ _ _ _ _ _ _ he)
      | exact hc _ _ _ _ _ _ _ he
  · rename_i hne
    first
      | exact he
      | (split
         · rename_i f args ts ho
           exact absurd ho (hne f args ts)
         · exact he)
theorem eDoes_ok (hc : c.ok P) {ops : Array Oper} {o : Oper} {s : S} {h : Nat → AV} {A : Asg} (he : eDoes P c ops o s h = some A) : Does P 0 ops o s h A := by
  unfold eDoes at he
  unfold Does
  cases hg : o.guard with
  | none =>
    simp only [hg, Option.map_eq_some_iff] at he ⊢
    obtain ⟨r, h1, rfl⟩ := he
    exact ⟨r.1, r.2, eStep_ok hc h1, rfl⟩
  | some p =>
    obtain ⟨j, b⟩ := p
    simp only [hg] at he ⊢
    split at he
    · rename_i y hy
      refine ⟨y, hy, ?_⟩
      split at he
      · rename_i e
        rw [if_pos e]
        simp only [Option.map_eq_some_iff] at he
        obtain ⟨r, h1, rfl⟩ := he
        exact ⟨r.1, r.2, eStep_ok hc h1, rfl⟩
      · rename_i e
        rw [if_neg e]
        cases he; rfl
    · cases he
theorem eOps0_ok (hc : c.ok P) {ops : Array Oper} {K : S → Prop} : ∀ (rest : List Oper) (e e' : ES), eOps0 P c ops rest e = some e' → K e'.s → AOps0 P 0 ops K rest e.s
  | [], e, e', h, k => by cases h; exact k
  | o :: rest, e, e', h, k => by
    simp only [eOps0] at h
    split at h
    · rename_i A hA
      refine ⟨A, eDoes_ok hc hA, ?_⟩
      rw [← ES.s_does]
      exact eOps0_ok hc rest _ _ h k
    · cases h
theorem eOps_ok (hc : c.ok P) {ops : Array Oper} {K : List Ent → S → Prop} : ∀ (rest : List Oper) (L L' : List Ent) (e e' : ES), eOps P c ops rest L e = some (L', e') → K L' e'.s → AOps P 0 ops K rest L e.s
  | [], L, L', e, e', h, k => by cases h; exact k
  | o :: rest, L, L', e, e', h, k => by
    simp only [eOps] at h
    split at h
    · rename_i A hA
      refine ⟨A, eDoes_ok hc hA, ?_⟩
      rw [← ES.s_does]
      exact eOps_ok hc rest _ _ _ _ h k
    · cases h
theorem thenQ_ne {N : S → Prop} {Q : Exit → S → Prop} {x : Exit} {s : S} (h : x ≠ .normal) (q : Q x s) : thenQ N Q x s := by
  cases x <;> first | exact absurd rfl h | exact q
theorem blockQ_ne {id : Nat} {Q : Exit → S → Prop} {x : Exit} {s : S} (h : ∀ i, x ≠ .exit i) (q : Q x s) : blockQ id Q x s := by
  cases x <;> first | exact absurd rfl (h _) | exact q
theorem eCode_ok (hc : c.ok P) (n : Nat) : ∀ (k : Code) (e e' : ES) (x : Exit) (Q : Exit → S → Prop), eCode P c n k e = some (x, e') → Q x e'.s → AWP P 0 k Q e.s
  | .skip, e, e', x, Q, h, q => by cases h; exact q
  | .region _ ops false, e, e', x, Q, h, q => by
    simp only [eCode, Option.map_eq_some_iff] at h
    obtain ⟨e1, h1, h2⟩ := h
    cases h2
    exact eOps0_ok hc _ _ _ h1 q
  | .region _ ops true, e, e', x, Q, h, q => by
    simp only [eCode] at h
    split at h
    · rename_i L e1 h1
      split at h
      · rename_i ok
        cases h
        exact eOps_ok (K := fun L s' => okLog ops L = true ∧ Q .normal s') hc _ _ _ _ _ h1 ⟨ok, q⟩
      · cases h
    · cases h
  | .seq a b, e, e', x, Q, h, q => by
    simp only [eCode] at h
    split at h
    · rename_i e1 h1
      exact eCode_ok hc n a _ _ _ _ h1 (eCode_ok hc n b _ _ _ _ h q)
    · rename_i hne
      refine eCode_ok hc n a _ _ _ _ h (thenQ_ne (fun hx => ?_) q)
      subst hx
      exact hne _ h
  | .cond o a b, e, e', x, Q, h, q => by
    simp only [eCode] at h
    split at h
    · rename_i hb
      exact ⟨true, hb, fun _ => eCode_ok hc n a _ _ _ _ h q, fun hh => by cases hh⟩
    · rename_i hb
      exact ⟨false, hb, (fun hh => by cases hh), fun _ => eCode_ok hc n b _ _ _ _ h q⟩
    · cases h
  | .block id a, e, e', x, Q, h, q => by
    simp only [eCode] at h
    split at h
    · rename_i id' e1 h1
      refine eCode_ok hc n a _ _ _ (blockQ id Q) h1 ?_
      simp only [blockQ]
      split at h
      · rename_i hi
        cases h
        rw [if_pos hi]; exact q
      · rename_i hi
        cases h
        rw [if_neg hi]; exact q
    · rename_i hne
      refine eCode_ok hc n a _ _ _ (blockQ id Q) h (blockQ_ne (fun i hx => ?_) q)
      subst hx
      exact hne _ _ h
  | .loop a, e, e', x, Q, h, q => by
    simp only [eCode] at h
    refine ⟨fun m s => ∃ e, e.s = s ∧ eLoop (eCode P c n a) m e = some (x, e'), n, ⟨e, rfl, h⟩, ?_⟩
    rintro m s ⟨e, rfl, hm⟩
    cases m with
    | zero => simp [eLoop] at hm
    | succ m =>
      simp only [eLoop] at hm
      split at hm
      · rename_i e1 h1
        exact eCode_ok hc n a _ _ _ _ h1 ⟨m, Nat.lt_succ_self m, e1, rfl, hm⟩
      · rename_i hne
        refine eCode_ok hc n a _ _ _ _ hm (thenQ_ne (fun hx => ?_) q)
        subst hx
        exact hne _ hm
  | .exit id, e, e', x, Q, h, q => by cases h; exact q
  | .ret, e, e', x, Q, h, q => by cases h; exact q
  | .goto .., _, _, _, _, h, _ => by simp [eCode] at h
def eInit (as : List AV) : ES := ⟨(List.range as.length).zip as, []⟩
theorem eget_zip (d : AV) : ∀ (as : List AV) (o i : Nat), eget d ((List.range' o as.length).zip as) (o + i) = as.getD i d
  | [], o, i => by simp [eget]
  | a :: as, o, i => by
    rw [List.length_cons, List.range'_succ, List.zip_cons_cons]
    simp only [eget]
    cases i with
    | zero => simp
    | succ i =>
      rw [if_neg (by omega), show o + (i + 1) = o + 1 + i by omega, eget_zip d as (o + 1) i]
      simp
theorem eInit_s (as : List AV) : (eInit as).s = init as := by
  funext l
  cases l with
  | t i =>
    have := eget_zip (.sc undef) as 0 i
    rw [Nat.zero_add] at this
    simpa [eInit, ES.s, init, List.range_eq_range'] using this
  | h k => rfl
def eInitH (as L : List AV) : ES := ⟨(List.range as.length).zip as, [(KA, .blk 1 2 L)]⟩
theorem eInitH_s (as L : List AV) : (eInitH as L).s = initH as L := by
  funext l
  cases l with
  | t i => exact congrFun (eInit_s as) (.t i)
  | h k =>
    simp only [eInitH, ES.s, initH, eget]
    by_cases h : k = KA
    · rw [if_pos h.symm, if_pos h]
    · rw [if_neg (Ne.symm h), if_neg h]
def lentAt (h : Nat → AV) : List AV → Option Nat
  | [] => none
  | .hs k _ _ _ _ :: _ => match h k with
    | .blk _ 2 _ => some k
    | _ => none
  | _ :: l => lentAt h l
abbrev EF := FuncId → List AV → Option AV
abbrev EH := FuncId → List AV → List AV → Option (AV × Nat × List AV)
def eCall (lent : FuncId → Bool) (F : EF) (H : EH) : CE := fun _ f s h args =>
  match (if lent f then lentAt h args else none) with
  | some k => match h k with
    | .blk g 2 cs => match frzHL h k args with
      | some (as, ks) => if cs.all AV.fz = true ∧ ks.contains k = false ∧ AV.keepL k g as = true then
          (match H f (AV.toL KA 1 as) cs with
          | some (r, G, L') => some (r.to k (g + (G - 1)), (ks.map fun k => (k, fzn (s (.h k)))) ++ [(k, .blk (g + (G - 1)) 2 L')])
          | none => none) else none
      | none => none
    | _ => none
  | none => match frzL h args with
    | some (as, ks) => (F f as).map fun v => (v, ks.map fun k => (k, fzn (s (.h k))))
    | none => none
def scs : List AV → Option (List Value)
  | [] => some []
  | .sc v :: l => match scs l with
    | some vs => some (v :: vs)
    | none => none
  | _ => none
theorem scs_eq : ∀ {l : List AV} {us : List Value}, scs l = some us → l = us.map AV.sc
  | [], us, h => by simp [scs] at h; subst h; rfl
  | x :: l, us, h => by
    cases x with
    | sc v =>
      simp only [scs] at h
      split at h
      · rename_i vs h1
        cases h
        rw [scs_eq h1]
        rfl
      · cases h
    | _ => simp [scs] at h
def extRun (P : Program) (f : FuncId) (args : List AV) : Option Value :=
  match P.funcs[f]? with
  | some fn => if fn.body.isNone = true then (match scs args with
    | some us => match pureRun P (callFunc f us.toArray) with
      | some (.value u) => some u
      | _ => none
    | none => none) else none
  | none => none
theorem extRun_ok {P : Program} {f : FuncId} {args : List AV} {u : Value} (h : extRun P f args = some u) : ∃ us : List Value, args = us.map AV.sc ∧ ∀ w, (callFunc f us.toArray).run P w = .ok (.value u) w := by
  unfold extRun at h
  split at h
  · split at h
    · split at h
      · rename_i us h1
        split at h
        · rename_i u' h2
          cases h
          exact ⟨us, scs_eq h1, fun w => pureRun_ok h2 w⟩
        · cases h
      · cases h
    · cases h
  · cases h
def eCallX (P : Program) (lent : FuncId → Bool) (F : EF) (H : EH) : CE := fun d f s h args =>
  match extRun P f args with
  | some u => some (.sc u, [])
  | none => eCall lent F H d f s h args
def eF (P : Program) (lent : FuncId → Bool) (N : Nat) : Nat → EF × EH
  | 0 => (fun _ _ => none, fun _ _ _ => none)
  | n + 1 => (fun f as => match P.funcs[f]? with
      | none => none
      | some fn => match fn.body with
        | none => none
        | some c => if as.length ≤ fn.ntmps then (match eCode P (eCallX P lent (eF P lent N n).1 (eF P lent N n).2) N c (eInit as) with
          | some (.ret, e) | some (.normal, e) => match ares P e.s fn.results.toList with
            | some l => (frz (fun k => e.s (.h k)) (tupA l)).map (·.1)
            | none => none
          | _ => none) else none,
    fun f as L => match P.funcs[f]? with
      | none => none
      | some fn => match fn.body with
        | none => none
        | some c => if as.length ≤ fn.ntmps then (match eCode P (eCallX P lent (eF P lent N n).1 (eF P lent N n).2) N c (eInitH as L) with
          | some (.ret, e) | some (.normal, e) => match ares P e.s fn.results.toList with
            | some l => match frzHL (fun k => e.s (.h k)) KA l, e.s (.h KA) with
              | some (l', ks), .blk G 2 L' => if ks.contains KA = false ∧ L'.all AV.fz = true ∧ (tupA l').keep KA G = true ∧ 1 ≤ G ∧ (G = 1 → L'.length = L.length) then some (tupA l', G, L') else none
              | _, _ => none
            | none => none
          | _ => none) else none)
def funOK (fn : Func) : Bool := !(fn.name == "runtime.NumGoroutine") && (match fn.body with | some c => codeOK fn.ntmps c | none => true)
def progOK (P : Program) : Bool := P.funcs.toList.all funOK
theorem enters (hP : progOK P = true) {f : FuncId} {fn : Func} {k : Code} (hf : P.funcs[f]? = some fn) (hb : fn.body = some k) : (∀ args w, (callFunc f args).run P w = .ok (.enter f args) w) ∧ codeOK fn.ntmps k = true := by
  simp only [progOK, List.all_eq_true] at hP
  have := hP fn (by
    have : P.funcs.toList[f]? = some fn := by simpa using hf
    exact List.mem_of_getElem? this)
  simp only [funOK, hb, Bool.and_eq_true, Bool.not_eq_true'] at this
  have h1 : fn.name ≠ "runtime.NumGoroutine" := by simpa using this.1
  refine ⟨fun args w => ?_, this.2⟩
  simp [callFunc, hf, hb, h1]
theorem eCall_ok {lent : FuncId → Bool} {F : EF} {H : EH} (hF : ∀ f as r, F f as = some r → Spec P f as r) (hH : ∀ f as L r G L', H f as L = some (r, G, L') → SpecH P f as L r G L') : (eCall lent F H).ok P := by
  intro d f s h args v ups he
  unfold eCall at he
  split at he
  · rename_i k _
    split at he
    · rename_i g cs hk
      split at he
      · rename_i as ks hfr
        split at he
        · rename_i hc
          split at he
          · rename_i r G L' hr
            cases he
            exact .inr (.inl ⟨k, g, cs, as, ks, _, G, L', r, hk, hc.1, hfr, hc.2.1, hc.2.2, WkL.refl _, hH _ _ _ _ _ _ hr, rfl, rfl⟩)
          · cases he
        · cases he
      · cases he
    · cases he
  · split at he
    · rename_i as ks hfr
      simp only [Option.map_eq_some_iff] at he
      obtain ⟨r, h1, h2⟩ := he
      cases h2
      exact .inl ⟨as, ks, as, hfr, WkL.refl _, hF _ _ _ h1, rfl⟩
    · cases he
theorem eCallX_ok {lent : FuncId → Bool} {F : EF} {H : EH} (hF : ∀ f as r, F f as = some r → Spec P f as r) (hH : ∀ f as L r G L', H f as L = some (r, G, L') → SpecH P f as L r G L') : (eCallX P lent F H).ok P := by
  intro d f s h args v ups he
  unfold eCallX at he
  split at he
  · rename_i u hu
    cases he
    obtain ⟨us, h1, h2⟩ := extRun_ok hu
    exact .inr (.inr (.inr (.inr ⟨us, u, h1, h2, rfl, rfl⟩)))
  · exact eCall_ok hF hH d f s h args v ups he
theorem eF_ok (hm : P.follows .mixedOrders = true) (hP : progOK P = true) (lent : FuncId → Bool) (N : Nat) : ∀ n, (∀ f as r, (eF P lent N n).1 f as = some r → Spec P f as r) ∧ ∀ f as L r G L', (eF P lent N n).2 f as L = some (r, G, L') → SpecH P f as L r G L'
  | 0 => ⟨fun f as r h => by simp [eF] at h, fun f as L r G L' h => by simp [eF] at h⟩
  | n + 1 => by
    obtain ⟨i1, i2⟩ := eF_ok hm hP lent N n
    have hc := eCallX_ok (P := P) (lent := lent) i1 i2
    constructor
    · intro f as r h
      simp only [eF] at h
      split at h
      · cases h
      · rename_i fn hf
        split at h
        · cases h
        · rename_i k hb
          obtain ⟨q1, q2⟩ := enters hP hf hb
          split at h
          · rename_i hl
            have fin : ∀ (x : Exit) (e : ES), (x = .ret ∨ x = .normal) → eCode P (eCallX P lent (eF P lent N n).1 (eF P lent N n).2) N k (eInit as) = some (x, e) →
                (match ares P e.s fn.results.toList with | some l => (frz (fun k => e.s (.h k)) (tupA l)).map (·.1) | none => none) = some r → Spec P f as r := by
              intro x e hx h1 h2
              split at h2
              · rename_i l h3
                simp only [Option.map_eq_some_iff] at h2
                obtain ⟨⟨r', ks⟩, h4, rfl⟩ := h2
                refine spec_of_awp hm hf hb q1 q2 hl (frz_sites _ _ _ h4).1 ?_
                rw [← eInit_s]
                refine eCode_ok hc N k _ _ _ _ h1 ?_
                rcases hx with rfl | rfl <;> exact ⟨l, r', ks, h3, h4, Wk.refl _⟩
              · cases h2
            split at h
            · rename_i e h1; exact fin _ e (.inl rfl) h1 h
            · rename_i e h1; exact fin _ e (.inr rfl) h1 h
            · cases h
          · cases h
    · intro f as L r G L' h
      simp only [eF] at h
      split at h
      · cases h
      · rename_i fn hf
        split at h
        · cases h
        · rename_i k hb
          obtain ⟨q1, q2⟩ := enters hP hf hb
          split at h
          · rename_i hl
            have fin : ∀ (x : Exit) (e : ES), (x = .ret ∨ x = .normal) → eCode P (eCallX P lent (eF P lent N n).1 (eF P lent N n).2) N k (eInitH as L) = some (x, e) →
                (match ares P e.s fn.results.toList with
                  | some l => match frzHL (fun k => e.s (.h k)) KA l, e.s (.h KA) with
                    | some (l', ks), .blk G 2 L' => if ks.contains KA = false ∧ L'.all AV.fz = true ∧ (tupA l').keep KA G = true ∧ 1 ≤ G ∧ (G = 1 → L'.length = L.length) then some (tupA l', G, L') else none
                    | _, _ => none
                  | none => none) = some (r, G, L') → SpecH P f as L r G L' := by
              intro x e hx h1 h2
              split at h2
              · rename_i l h3
                split at h2
                · rename_i l' ks G' L1 h4 h5
                  split at h2
                  · rename_i hc1
                    cases h2
                    obtain ⟨c1, c2, c3, c4, c5⟩ := hc1
                    refine specH_of_awp hm hf hb q1 q2 hl c3 c4 c5 ?_
                    rw [← eInitH_s]
                    refine eCode_ok hc N k _ _ _ _ h1 ?_
                    rcases hx with rfl | rfl <;> exact ⟨l, l', ks, h3, h4, c1, h5, c2, c3, Wk.refl _⟩
                  · cases h2
                · cases h2
              · cases h2
            split at h
            · rename_i e h1; exact fin _ e (.inl rfl) h1 h
            · rename_i e h1; exact fin _ e (.inr rfl) h1 h
            · cases h
          · cases h
def isB (b : Bool) : Option AV → Bool
  | some (.sc (.bool c)) => c == b
  | _ => false
theorem spec_run (hm : P.follows .mixedOrders = true) (hP : progOK P = true) (lent : FuncId → Bool) (N n : Nat) {f : FuncId} {as : List AV} {b : Bool} (h : isB b ((eF P lent N n).1 f as) = true) : Spec P f as (.sc (.bool b)) := by
  unfold isB at h
  split at h
  · rename_i c hc
    have : c = b := by simpa using h
    subst this
    exact (eF_ok hm hP lent N n).1 _ _ _ hc
  · cases h
end
end Go.Ab
end

import Derived.Test.YtgffficaoioljaaRa2
import Derived.Laws.Entries
import Derived.Laws.Append
import Derived.Laws.IdiomCopy
import Derived.Laws.Slices
import Derived.Laws.Strings
import Derived.Laws.MakeOwn
import Derived.Deep.LoopGhost
set_option linter.all false
section
namespace Go.Ab
open Go
structure Ty where
  d : TypeDesc
  sz : Nat
  z : Option (List Value)
  by_ : Nat
def tyOf (P : Program) (t : TypeId) : Option Ty :=
  match P.underlying t, P.info? t with
  | some d, some i => some ⟨d, i.size, i.zero.map (·.cells.toList), i.bytes⟩
  | _, _ => none
def isRow : TypeDesc → Bool
  | .struct _ | .array _ _ => true
  | _ => false
def ev (s : S) : Operand → AV
  | .tmp t => s (.t t)
  | .const v => .sc v
  | .global g => .sc (.pointer (some ⟨g, 0, none⟩))
  | .func f => .sc (.func (.func f) #[] #[])
def AV.cellsA : AV → List AV
  | .agg cs => cs
  | .sc v => v.cells.toList.map .sc
  | x => [x]
abbrev Eff := AV × List (Nat × AV)
def genOf : AV → Nat
  | .blk g _ _ => g
  | _ => 0
def anew (B : Nat) (dst : Option Tmp) (h : Nat → AV) (mk : Nat → Nat → AV) (cs : List AV) : Option Eff :=
  match dst with
  | none => none
  | some d => if cs.all AV.one = true then some (mk (B + d) (genOf (h (B + d)) + 1), [(B + d, .blk (genOf (h (B + d)) + 1) 2 cs)]) else none
def setAt : List AV → Nat → List AV → List AV
  | cs, _, [] => cs
  | cs, i, v :: vs => setAt (cs.set i v) (i + 1) vs
def acut (d : TypeDesc) (sz : Nat) (cs : List AV) (off : Nat) : Option AV :=
  if isRow d then (if off + sz ≤ cs.length then some (.agg ((cs.drop off).take sz)) else none) else cs[off]?
def aload (P : Program) (t : TypeId) (x : AV) (h : Nat → AV) : Option AV :=
  match tyOf P t with
  | none => none
  | some ty => match x with
    | .hp k g off => match h k with
      | .blk g' st cs => if g' = g ∧ st ≠ 0 then acut ty.d ty.sz cs off else none
      | _ => none
    | .vp xs => acut ty.d ty.sz xs 0
    | _ => none
def astore (P : Program) (t : TypeId) (x v : AV) (h : Nat → AV) : Option Eff :=
  match tyOf P t with
  | none => none
  | some ty => match x with
    | .hp k g off => match h k with
      | .blk g' st cs => if g' = g ∧ st = 2 ∧ v.cellsA.length = ty.sz ∧ off + ty.sz ≤ cs.length ∧ v.cellsA.all AV.one = true then some (.sc undef, [(k, .blk g 2 (setAt cs off v.cellsA))]) else none
      | _ => none
    | _ => none
def afill (place : Nat → Option (Nat × Nat)) : List AV → List (Nat × AV) → Option (List AV)
  | cs, [] => some cs
  | cs, (i, v) :: rest => match place i with
    | none => none
    | some (off, size) => if v.cellsA.length = size ∧ off + size ≤ cs.length then afill place (setAt cs off v.cellsA) rest else none
def placesOf (P : Program) : List Field → Option (List (Nat × Nat))
  | [] => some []
  | f :: fs => match tyOf P f.type, placesOf P fs with
    | some ty, some l => some ((f.offset, ty.sz) :: l)
    | _, _ => none
def abuild (P : Program) (t : TypeId) (parts : List (Nat × AV)) : Option AV :=
  match tyOf P t with
  | some ⟨.struct fs, _, some z, _⟩ => match placesOf P fs.toList with
    | some l => (afill (l[·]?) (z.map .sc) parts).map .agg
    | none => none
  | some ⟨.array _ e, _, some z, _⟩ => match tyOf P e with
    | some ty => (afill (fun i => some (i * ty.sz, ty.sz)) (z.map .sc) parts).map .agg
    | none => none
  | _ => none
def zrow (n : Nat) (z : List Value) : List AV := if z.length = 1 then List.replicate n (.sc (z.headD undef)) else (List.replicate n (z.map AV.sc)).flatten
def aslice0 (P : Program) (t : TypeId) : Option (TypeId × Ty) :=
  match tyOf P t with
  | some ⟨.slice e, _, _, _⟩ => (tyOf P e).map fun ty => (e, ty)
  | _ => none
def abuildSlice (P : Program) (B : Nat) (dst : Option Tmp) (h : Nat → AV) (t : TypeId) (len : Nat) (parts : List (Nat × AV)) : Option Eff :=
  match aslice0 P t with
  | some (_, ⟨_, sz, some z, _⟩) => if z.length = sz ∧ len * sz ≤ 2 ^ 24 then
      (match afill (fun i => some (i * sz, sz)) (zrow len z) parts with
       | some cs => anew B dst h (fun k g => .hs k g 0 len sz) cs
       | none => none) else none
  | _ => none
def bAnd (k : IntKind) (a b : Int) : Int := k.wrap (BitVec.ofInt k.bits a &&& BitVec.ofInt k.bits b).toNat
def bOr (k : IntKind) (a b : Int) : Int := k.wrap (BitVec.ofInt k.bits a ||| BitVec.ofInt k.bits b).toNat
def bXor (k : IntKind) (a b : Int) : Int := k.wrap (BitVec.ofInt k.bits a ^^^ BitVec.ofInt k.bits b).toNat
def bNot (k : IntKind) (n : Int) : Int := k.wrap (BitVec.ofInt k.bits (if k.signed then -1 else k.max) ^^^ BitVec.ofInt k.bits n).toNat
def ibin (op : BinOp) (k : IntKind) (a b : Int) : Option Value :=
  match op with
  | .add => some (.int k (k.wrap (a + b)))
  | .sub => some (.int k (k.wrap (a - b)))
  | .mul => some (.int k (k.wrap (a * b)))
  | .quo => if b = 0 then none else some (.int k (k.wrap (a.tdiv b)))
  | .rem => if b = 0 then none else some (.int k (a.tmod b))
  | .and => some (.int k (bAnd k a b))
  | .or => some (.int k (bOr k a b))
  | .xor => some (.int k (bXor k a b))
  | .andNot => some (.int k (k.wrap (BitVec.ofInt k.bits a &&& ~~~BitVec.ofInt k.bits b).toNat))
  | .eql => some (.bool (a == b))
  | .neq => some (.bool (a != b))
  | .lss => some (.bool (decide (a < b)))
  | .leq => some (.bool (decide (a ≤ b)))
  | .gtr => some (.bool (decide (a > b)))
  | .geq => some (.bool (decide (a ≥ b)))
  | _ => none
def sbin (op : BinOp) (a b : ByteArray) : Option Value :=
  match op with
  | .add => if a.size + b.size ≤ 9223372036854775807 then some (.string (a ++ b)) else none
  | .eql => some (.bool (a.toList == b.toList))
  | .neq => some (.bool (!(a.toList == b.toList)))
  | .lss => some (.bool (Op.bytesLess a.toList b.toList))
  | .leq => some (.bool (Op.bytesLess a.toList b.toList || a.toList == b.toList))
  | .gtr => some (.bool (!(Op.bytesLess a.toList b.toList || a.toList == b.toList)))
  | .geq => some (.bool (!Op.bytesLess a.toList b.toList))
  | _ => none
def pureRun {α : Type} (P : Program) : Sem α → Option α
  | .pure a => some a
  | .program k => pureRun P (k P)
  | _ => none
theorem pureRun_ok {α : Type} {P : Program} : ∀ {x : Sem α} {a : α}, pureRun P x = some a → ∀ w, x.run P w = .ok a w
  | .pure b, a, h, w => by simp [pureRun] at h; subst h; rfl
  | .program k, a, h, w => by
    simp only [pureRun] at h
    simpa [Sem.run] using pureRun_ok h w
  | .load .., _, h, _ | .store .., _, h, _ | .new .., _, h, _ | .shape .., _, h, _ | .freeze .., _, h, _ | .frozen .., _, h, _ | .getObj .., _, h, _ | .setObj .., _, h, _
  | .choose .., _, h, _ | .sys .., _, h, _ | .mark .., _, h, _ | .halt .., _, h, _ => by simp [pureRun] at h
def nilS : AV → Value → Bool
  | .hs .., .slice none _ _ => true
  | .vs _ (_ :: _), .slice none _ _ => true
  | _, _ => false
def nilP : AV → Value → Bool
  | .hp .., .pointer none => true
  | .vp _, .pointer none => true
  | _, _ => false
def abin (P : Program) (op : BinOp) (t : TypeId) (x y : Operand) (a b : AV) : Option AV :=
  match a, b with
  | .sc (.int k m), .sc (.int k' n) =>
    match op with
    | .shl => if n < 0 then none else some (.sc (.int k (k.wrap (m * 2 ^ min n.toNat k.bits))))
    | .shr => if n < 0 then none else some (.sc (.int k (m.fdiv (2 ^ min n.toNat k.bits))))
    | _ => if k = k' then (ibin op k m n).map .sc else none
  | .sc (.string m), .sc (.string n) => (sbin op m n).map .sc
  | .sc u, .sc v => (pureRun P (do eqGuard op t x y u v; binOp op t u v)).map .sc
  | a, .sc v => match op, tyOf P t with
    | .eql, some ⟨.slice _, _, _, _⟩ => if nilS a v = true then some (.sc (.bool false)) else none
    | .neq, some ⟨.slice _, _, _, _⟩ => if nilS a v = true then some (.sc (.bool true)) else none
    | .eql, some ⟨.pointer _, _, _, _⟩ => if nilP a v = true then some (.sc (.bool false)) else none
    | .neq, some ⟨.pointer _, _, _, _⟩ => if nilP a v = true then some (.sc (.bool true)) else none
    | _, _ => none
  | _, _ => none
def aun (P : Program) (op : UnOp) (a : AV) : Option AV :=
  match a with
  | .sc (.int k n) => match op with
    | .neg => some (.sc (.int k (k.wrap (0 - n))))
    | .xor => some (.sc (.int k (bNot k n)))
    | _ => none
  | .sc (.bool b) => match op with
    | .not => some (.sc (.bool (!b)))
    | _ => none
  | .sc v => (pureRun P (Op.unary op v)).map .sc
  | _ => none
def arow (h : Nat → AV) : AV → Option (List AV)
  | .vs _ xs => some xs
  | .hs k g off n z => match h k with
    | .blk g' st cs => if g' = g ∧ st ≠ 0 ∧ off + n * z ≤ cs.length then some ((cs.drop off).take (n * z)) else none
    | _ => none
  | .sc (.slice none 0 0) => some []
  | _ => none
def alen : AV → Option Nat
  | .vs n _ => some n
  | .hs _ _ _ n _ => some n
  | .sc (.slice none n _) => some n
  | .sc (.string s) => some s.size
  | _ => none
def abytes : List AV → Option (List UInt8)
  | [] => some []
  | .sc (.int .u8 n) :: xs => match abytes xs with
    | some l => some (UInt8.ofNat n.toNat :: l)
    | none => none
  | _ => none
def aconv (P : Program) (B : Nat) (dst : Option Tmp) (h : Nat → AV) (src t : TypeId) (a : AV) : Option Eff :=
  match tyOf P t with
  | some ⟨.int k, _, _, _⟩ => match a with
    | .sc (.int _ n) => if (P.underlying src).isSome then some (.sc (.int k (k.wrap n)), []) else none
    | .sc v => (pureRun P (convert src t v)).map fun v => (.sc v, [])
    | _ => none
  | some ⟨.string, _, _, _⟩ => match aslice0 P src with
    | some (_, ⟨.int .u8, _, _, _⟩) => match (arow h a).bind abytes, a with
      | some l, .vs n xs => if n = xs.length then some (.sc (.string ⟨l.toArray⟩), []) else none
      | some l, .hs _ _ _ _ 1 => some (.sc (.string ⟨l.toArray⟩), [])
      | some _, .sc _ => some (.sc (.string .empty), [])
      | _, _ => none
    | _ => match a with
      | .sc v => (pureRun P (convert src t v)).map fun v => (.sc v, [])
      | _ => none
  | some ⟨.slice e, _, _, _⟩ => match tyOf P e, tyOf P src, a with
    | some ⟨.int .u8, _, _, _⟩, some ⟨.string, _, _, _⟩, .sc (.string s) =>
      anew B dst h (fun k g => .hs k g 0 s.size 1) (s.data.toList.map fun b => .sc (.int .u8 b.toNat))
    | _, _, _ => none
  | some _ => match a with
    | .sc v => (pureRun P (convert src t v)).map fun v => (.sc v, [])
    | _ => none
  | none => none
def amake (P : Program) (B : Nat) (dst : Option Tmp) (h : Nat → AV) (t : TypeId) (l c : AV) : Option Eff :=
  match aslice0 P t, l, c with
  | some (_, ⟨_, sz, some z, by_⟩), .sc (.int _ l), .sc (.int _ c) =>
    if z.length = sz ∧ 0 ≤ l ∧ l ≤ c ∧ (by_ : Int) * c ≤ 281474976710656 ∧ 1 ≤ by_ then anew B dst h (fun k g => .hs k g 0 l.toNat sz) (zrow l.toNat z) else none
  | _, _, _ => none
def bnd (o : Option AV) (d : Nat) : Option Nat :=
  match o with
  | none => some d
  | some (.sc (.int _ i)) => if 0 ≤ i then some i.toNat else none
  | _ => none
def aslice (P : Program) (t : TypeId) (x : AV) (lo hi mx : Option AV) (h : Nat → AV) : Option AV :=
  match x with
  | .sc (.string s) => match tyOf P t, bnd lo 0, bnd hi s.size, mx with
    | some ⟨.string, _, _, _⟩, some l, some r, none => if l ≤ r ∧ r ≤ s.size then some (.sc (.string (s.extract l r))) else none
    | _, _, _, _ => none
  | .vs n xs => match aslice0 P t, bnd lo 0, bnd hi n, mx with
    | some (_, ty), some l, some r, none => if l ≤ r ∧ r ≤ n then some (.vs (r - l) ((xs.drop (l * ty.sz)).take ((r - l) * ty.sz))) else none
    | _, _, _, _ => none
  | .hs k g off n z => match aslice0 P t, bnd lo 0, bnd hi n, mx, h k with
    | some (_, ty), some l, some r, none, .blk g' st cs => if z = ty.sz ∧ l ≤ r ∧ off + r * z ≤ cs.length ∧ 0 < z ∧ g' = g ∧ st ≠ 0 ∧ (l = 0 ∨ l < r) then some (.hs k g (off + l * z) (r - l) z) else none
    | _, _, _, _, _ => none
  | .sc (.slice none 0 0) => match aslice0 P t, bnd lo 0, bnd hi 0, mx with
    | some _, some 0, some 0, none => some (.sc (.slice none 0 0))
    | _, _, _, _ => none
  | _ => none
def fieldOf (P : Program) (t : TypeId) (f : Nat) : Option (Field × Ty) :=
  match tyOf P t with
  | some ⟨.struct fs, _, _, _⟩ => match fs[f]? with
    | some fd => (tyOf P fd.type).map fun ty => (fd, ty)
    | none => none
  | _ => none
def afieldAddr (P : Program) (t : TypeId) (x : AV) (f : Nat) : Option AV :=
  match fieldOf P t f with
  | some (fd, ty) => if ty.sz = 0 then none else match x with
    | .hp k g off => some (.hp k g (off + fd.offset))
    | .vp xs => some (.vp (xs.drop fd.offset))
    | _ => none
  | none => none
def afield (P : Program) (t : TypeId) (x : AV) (f : Nat) : Option AV :=
  match fieldOf P t f with
  | some (fd, ty) => match x with
    | .agg cs => acut ty.d ty.sz cs fd.offset
    | .sc (.agg vs) => acut ty.d ty.sz (vs.toList.map .sc) fd.offset
    | _ => none
  | none => none
def aindexAddr (P : Program) (t : TypeId) (x i : AV) : Option AV :=
  match i with
  | .sc (.int _ i) => match aslice0 P t, x with
    | some (_, ty), .vs n xs => if 0 ≤ i ∧ i < n ∧ i.toNat * ty.sz < xs.length then some (.vp (xs.drop (i.toNat * ty.sz))) else none
    | some (_, ty), .hs k g off n z => if 0 ≤ i ∧ i < n ∧ z = ty.sz then some (.hp k g (off + i.toNat * z)) else none
    | none, .hp k g off => match tyOf P t with
      | some ⟨.array n e, _, _, _⟩ => match tyOf P e with
        | some ty => if 0 ≤ i ∧ i < n then some (.hp k g (off + i.toNat * ty.sz)) else none
        | none => none
      | _ => none
    | _, _ => none
  | _ => none
def aindex (P : Program) (t : TypeId) (x i : AV) : Option AV :=
  match i with
  | .sc (.int _ i) => match tyOf P t, x with
    | some ⟨.string, _, _, _⟩, .sc (.string s) => if 0 ≤ i ∧ i < s.size then some (.sc (.int .u8 (s.data.toList.getD i.toNat 0).toNat)) else none
    | some ⟨.array n e, _, _, _⟩, .agg cs => match tyOf P e with
      | some ty => if 0 ≤ i ∧ i < n then acut ty.d ty.sz cs (i.toNat * ty.sz) else none
      | none => none
    | _, _ => none
  | _ => none
def aextract (x : AV) (i : Nat) : Option AV :=
  match x with
  | .tup cs => cs[i]?
  | .sc (.tuple vs) => vs.toList[i]?.map .sc
  | _ => none
def aappend (P : Program) (B : Nat) (dst : Option Tmp) (h : Nat → AV) (t : TypeId) (s x : AV) : Option Eff :=
  match aslice0 P t, alen x, arow h x with
  | some (_, ⟨_, sz, some z, by_⟩), some m, some news =>
    if z.length = sz ∧ news.length = m * sz ∧ 1 ≤ by_ ∧ 1 ≤ sz then
      if m = 0 then (match s with
        | .hs .. | .sc (.slice none 0 0) => some (s, [])
        | _ => none)
      else match s with
        | .sc (.slice none 0 0) => if m * by_ ≤ 140737488355328 then anew B dst h (fun k g => .hs k g 0 m sz) news else none
        | .hs k g 0 n z => match h k with
          | .blk g' 2 cs => if g' = g ∧ z = sz ∧ n * z = cs.length ∧ (n + m) * by_ ≤ 140737488355328 ∧ news.all AV.one = true then some (.hs k (g + 1) 0 (n + m) z, [(k, .blk (g + 1) 2 (cs ++ news))]) else none
          | _ => none
        | _ => none
    else none
  | _, _, _ => none
def acopy (P : Program) (h : Nat → AV) (t : TypeId) (d x : AV) : Option Eff :=
  match aslice0 P t, alen x, arow h x, d with
  | some (_, ty), some m, some news, .hs k g off n z => match h k with
    | .blk g' 2 cs => if g' = g ∧ z = ty.sz ∧ news.length = m * z ∧ off + n * z ≤ cs.length ∧ news.all AV.one = true then
        some (.sc (.int .i64 (min m n : Nat)), [(k, .blk g 2 (setAt cs off (news.take (min m n * z))))]) else none
    | _ => none
  | _, _, _, _ => none
def abuiltin (P : Program) (B : Nat) (dst : Option Tmp) (h : Nat → AV) (b : Builtin) (ts : List TypeId) (as : List AV) : Option Eff :=
  match b, ts, as with
  | .len, [t], [x] => match tyOf P t, x with
    | some ⟨.string, _, _, _⟩, .sc (.string s) => some (.sc (.int .i64 s.size), [])
    | some ⟨.slice _, _, _, _⟩, .vs n _ => some (.sc (.int .i64 n), [])
    | some ⟨.slice _, _, _, _⟩, .hs _ _ _ n _ => some (.sc (.int .i64 n), [])
    | some ⟨.slice _, _, _, _⟩, .sc (.slice _ n _) => some (.sc (.int .i64 n), [])
    | _, _ => none
  | .append, [t, t'], [s, x] => if t = t' then aappend P B dst h t s x else none
  | .copy, [t, t'], [d, x] => if t = t' then acopy P h t d x else none
  | _, _, _ => none
def aeff (P : Program) (B : Nat) (op : Op) (dst : Option Tmp) (ρ : Operand → AV) (h : Nat → AV) : Option Eff :=
  match op with
  | .move x | .assign x => some (ρ x, [])
  | .pick c a b => match ρ c with
    | .sc (.bool t) => some (if t then ρ a else ρ b, [])
    | _ => none
  | .alloc t => match tyOf P t with
    | some ⟨_, _, some z, _⟩ => anew B dst h (fun k g => .hp k g 0) (z.map .sc)
    | _ => none
  | .box _ x => anew B dst h (fun k g => .hp k g 0) (ρ x).cellsA
  | .build t ps => (abuild P t (ps.toList.map fun p => (p.1, ρ p.2))).map fun v => (v, [])
  | .buildSlice t n ps => abuildSlice P B dst h t n (ps.toList.map fun p => (p.1, ρ p.2))
  | .load t x => (aload P t (ρ x) h).map fun v => (v, [])
  | .store t x v => astore P t (ρ x) (ρ v) h
  | .binOp op t x y _ => (abin P op t x y (ρ x) (ρ y)).map fun v => (v, [])
  | .unOp op _ x => (aun P op (ρ x)).map fun v => (v, [])
  | .convert s t x => aconv P B dst h s t (ρ x)
  | .makeSlice t l c => amake P B dst h t (ρ l) (ρ c)
  | .slice t x lo hi mx => (aslice P t (ρ x) (lo.map ρ) (hi.map ρ) (mx.map ρ) h).map fun v => (v, [])
  | .fieldAddr t x f => (afieldAddr P t (ρ x) f).map fun v => (v, [])
  | .field t x f => (afield P t (ρ x) f).map fun v => (v, [])
  | .indexAddr t x i => (aindexAddr P t (ρ x) (ρ i)).map fun v => (v, [])
  | .index t x i => (aindex P t (ρ x) (ρ i)).map fun v => (v, [])
  | .extract x i => (aextract (ρ x) i).map fun v => (v, [])
  | .call ⟨.builtin b, as, ts⟩ => abuiltin P B dst h b ts.toList (as.toList.map ρ)
  | _ => none
def Sub (h : Nat → AV) (s : S) : Prop := ∀ k g st cs, h k = .blk g st cs → s (.h k) = .blk g st cs
theorem setCells_heap (b : Nat) (e : TypeId) (f : Nat × Nat) : ∀ (vs : List Value) (o : Nat) (w : World) (arr : Array Value), w.heap[b]? = some (.cells arr e f) →
    ∃ arr', (w.setCells b o vs).heap[b]? = some (.cells arr' e f) ∧ arr'.size = arr.size ∧
      (∀ i, arr'[i]? = if o ≤ i ∧ i < o + vs.length ∧ i < arr.size then vs[i - o]? else arr[i]?) ∧
      (∀ b', b' ≠ b → (w.setCells b o vs).heap[b']? = w.heap[b']?) ∧ (w.setCells b o vs).heap.size = w.heap.size ∧
      (w.setCells b o vs).os = w.os ∧ (w.setCells b o vs).tape = w.tape ∧ (w.setCells b o vs).output = w.output
  | [], o, w, arr, h => ⟨arr, h, rfl, fun i => by rw [if_neg (by simp; omega)], fun _ _ => rfl, rfl, rfl, rfl, rfl⟩
  | v :: vs, o, w, arr, h => by
    have h1 : (w.setCell ⟨b, o, none⟩ v).heap[b]? = some (.cells (arr.setIfInBounds o v) e f) := by
      simp [World.setCell, Array.getElem?_modify, h]
    obtain ⟨arr', h2, h3, h4, h5, h6, h7, h8, h9⟩ := setCells_heap b e f vs (o + 1) (w.setCell ⟨b, o, none⟩ v) _ h1
    refine ⟨arr', h2, by simpa using h3, fun i => ?_, fun b' hb => ?_, ?_, h7, h8, h9⟩
    · rw [h4]
      simp only [Array.size_setIfInBounds, List.length_cons]
      by_cases e1 : o + 1 ≤ i ∧ i < o + 1 + vs.length ∧ i < arr.size
      · rw [if_pos e1, if_pos (by omega), show i - o = (i - (o + 1)) + 1 by omega]
        simp
      · rw [if_neg e1, Array.getElem?_setIfInBounds]
        by_cases e2 : o = i
        · subst e2
          by_cases e3 : o < arr.size
          · rw [if_pos rfl, if_pos e3, if_pos (by omega)]; simp
          · rw [if_pos rfl, if_neg e3, if_neg (by omega), Array.getElem?_eq_none (by omega)]
        · rw [if_neg e2, if_neg (by omega)]
    · rw [World.setCells, h5 b' hb]
      simp [World.setCell, Array.getElem?_modify, Ne.symm hb]
    · rw [World.setCells, h6]
      simp [World.setCell]
theorem setAt_length : ∀ (cs : List AV) (i : Nat) (vs : List AV), (setAt cs i vs).length = cs.length
  | cs, i, [] => rfl
  | cs, i, v :: vs => by rw [setAt, setAt_length]; simp
theorem setAt_get : ∀ (cs : List AV) (o : Nat) (vs : List AV) (i : Nat), (setAt cs o vs)[i]? = if o ≤ i ∧ i < o + vs.length ∧ i < cs.length then vs[i - o]? else cs[i]?
  | cs, o, [], i => by rw [if_neg (by simp; omega)]; rfl
  | cs, o, v :: vs, i => by
    rw [setAt, setAt_get]
    simp only [List.length_set, List.length_cons]
    by_cases e1 : o + 1 ≤ i ∧ i < o + 1 + vs.length ∧ i < cs.length
    · rw [if_pos e1, if_pos (by omega), show i - o = (i - (o + 1)) + 1 by omega]
      simp
    · rw [if_neg e1, List.getElem?_set]
      by_cases e2 : o = i
      · subst e2
        by_cases e3 : o < cs.length
        · rw [if_pos rfl, if_pos e3, if_pos (by omega)]; simp
        · rw [if_pos rfl, if_neg e3, if_neg (by omega)]
          rw [List.getElem?_eq_none (by omega)]
      · rw [if_neg e2, if_neg (by omega)]
def appH (s : S) (ups : List (Nat × AV)) : S := app s (ups.map fun p => (.h p.1, p.2))
theorem appH_nil (s : S) : appH s [] = s := rfl
theorem appH_one (s : S) (k : Nat) (x : AV) : appH s [(k, x)] = upd s (.h k) x := rfl
theorem appH_t : ∀ (s : S) (ups : List (Nat × AV)) (i : Nat), appH s ups (.t i) = s (.t i)
  | s, [], i => rfl
  | s, (k, x) :: ups, i => by
    have := appH_t (upd s (.h k) x) ups i
    simpa [appH, app_cons, upd] using this
section
variable {P : Program} {F : Nat → Prop} {s : S} {μ : Mu} {a : Act} {w : World}
theorem ev_rep (sim : Sim F s μ a w) (x : Operand) : Rep w μ (Mof F s μ) (ev s x) (a.eval x) := by
  cases x with
  | tmp t => exact sim.tm t
  | const v => simp [ev, Act.eval, Rep]
  | global g => simp [ev, Act.eval, Rep]
  | func f => simp [ev, Act.eval, Rep]
structure Out (P : Program) (F : Nat → Prop) (s : S) (μ : Mu) (w : World) (ups : List (Nat × AV)) (v : AV) (u : Value) (w' : World) : Prop where
  out : ∃ μ', Rep w' μ' (Mof F (appH s ups) μ') v u ∧ Hp F (appH s ups) μ' w' ∧ Step s μ w (appH s ups) μ' w'
theorem Out.pure (hp : Hp F s μ w) {v : AV} {u : Value} (h : Rep w μ (Mof F s μ) v u) : Out P F s μ w [] v u w := ⟨μ, h, hp, Step.refl s μ w⟩
theorem anew_out (hp : Hp F s μ w) {B : Nat} {dst : Option Tmp} {h : Nat → AV} (hh : ∀ d, dst = some d → h (B + d) = s (.h (B + d))) {mk : Nat → Nat → AV} {cs : List AV} {v : AV} {ups : List (Nat × AV)}
    (he : anew B dst h mk cs = some (v, ups)) (arr : Array Value) (e : TypeId) (f : Nat × Nat) (hl : cs.length ≤ arr.size) (hf : ∀ o, o < arr.size → ¬ (f.1 ≤ o ∧ o < f.2))
    (hr : ∀ (i : Nat) (x : AV), cs[i]? = some x → ∃ u, arr[i]? = some u ∧ Rep w μ (Mof F s μ) x u) {w' : World} (hw : w'.heap = w.heap.push (.cells arr e f)) (ho : w'.os = w.os) (ht : w'.tape = w.tape) (hout : w'.output = w.output)
    {u : Value} (hu : ∀ k g (μ' : Mu) M, μ' k g = some (w.heap.size, cs.length, arr.size) → Rep w' μ' M (mk k g) u) : Out P F s μ w ups v u w' := by
  unfold anew at he
  split at he
  · cases he
  · rename_i d
    obtain ⟨g, st, cs0, hs⟩ := hp.isb (B + d)
    have hg : genOf (h (B + d)) = g := by rw [hh d rfl, hs]; rfl
    rw [hg] at he
    split at he
    · rename_i hone
      cases he
      · skip
        let μ' : Mu := fun k1 g1 => if k1 = B + d ∧ g1 = g + 1 then some (w.heap.size, cs.length, arr.size) else μ k1 g1
        have hnew : μ' (B + d) (g + 1) = some (w.heap.size, cs.length, arr.size) := by simp [μ']
        have hsz : w'.heap.size = w.heap.size + 1 := by rw [hw]; simp
        have hcell : w'.heap[w.heap.size]? = some (.cells arr e f) := by rw [hw]; simp
        obtain ⟨h1, h2⟩ := hp.upd (μ' := μ') (w' := w') (B + d) g st cs0 hs (g + 1) 2 cs w.heap.size arr.size (by omega)
          (fun k1 g1 hne => by simp only [μ']; rw [if_neg hne]) hnew (fun e => by omega) (.inl (Nat.le_refl _)) (by omega) ho ht hout (by omega)
          (fun b hb _ => by rw [hw, Array.getElem?_push, if_neg (by omega)])
          (fun up _ => ⟨arr, e, f, hcell, rfl, hl, hf, fun i x hx => by
            obtain ⟨u, h3, h4⟩ := hr i x hx
            exact ⟨by simp only [List.all_eq_true] at hone; exact hone x (List.mem_of_getElem? hx), u, h3, Rep.mono up _ _ h4⟩⟩)
        exact ⟨μ', hu _ _ _ _ hnew, h1, h2⟩
    · cases he
theorem store_out (hp : Hp F s μ w) {k g : Nat} {cs : List AV} (hs : s (.h k) = .blk g 2 cs) (off : Nat) (vs : List AV) (us : List Value) (hoff : off + vs.length ≤ cs.length) (hone : ∀ x ∈ vs, x.one = true)
    (hr : RepL w μ (Mof F s μ) vs us) : ∃ c L A, μ k g = some (c, L, A) ∧ (∀ j, j < us.length → (w.cell? ⟨c, off + j, none⟩).isSome = true) ∧ (∀ j, j < us.length → w.frozen? ⟨c, off + j, none⟩ = false) ∧ (∀ v ∈ us, oneV v = true) ∧
      ∀ (v : AV) (u : Value), (∀ w', Rep w' μ (Mof F (appH s [(k, .blk g 2 (setAt cs off vs))]) μ) v u) → Out P F s μ w [(k, .blk g 2 (setAt cs off vs))] v u (w.setCells c off us) := by
  obtain ⟨c, A, arr, e, f, h1, h2, h3, h4, h5, h6⟩ := hp.row k g 2 cs hs (by decide)
  have hlen := RepL.length hr
  refine ⟨c, cs.length, A, h1, fun j hj => ?_, fun j hj => ?_, fun v hv => ?_, fun v u hv => ?_⟩
  · simp only [World.cell?, h2]
    have : off + j < arr.size := by omega
    simp [this]
  · simp only [World.frozen?, h2]
    have := h5 (off + j) (by omega)
    simp only [Bool.and_eq_false_iff, decide_eq_false_iff_not]
    omega
  · obtain ⟨i, hi⟩ := List.getElem?_of_mem hv
    have hil : i < vs.length := by have := (List.getElem?_eq_some_iff.1 hi).1; omega
    obtain ⟨u', h7, h8⟩ := RepL.get hr i vs[i] (List.getElem?_eq_getElem hil)
    rw [hi] at h7
    cases h7
    exact Rep.one h8 (hone _ (List.getElem_mem hil))
  · obtain ⟨arr', g1, g2, g3, g4, g5, g6, g7, g8⟩ := setCells_heap c e f us off w arr h2
    obtain ⟨k1, k2⟩ := hp.upd (μ' := μ) (w' := w.setCells c off us) k g 2 cs hs g 2 (setAt cs off vs) c A (Nat.le_refl _) (fun _ _ _ => rfl) (by rw [setAt_length]; exact h1) (fun _ => rfl)
      (.inr ⟨cs.length, A, by decide, h1, fun _ => rfl⟩) (by rw [g5]; exact (hp.old _ _ _ _ _ h1).1) g6 g7 g8 (by omega)
      (fun b hb hne => g4 b fun e => hne ⟨rfl, cs.length, A, by rw [e]; exact h1⟩)
      (fun up _ => ⟨arr', e, f, g1, by omega, by rw [setAt_length]; exact h4, h5, fun i x hx => by
        rw [setAt_get] at hx
        rw [g3]
        split at hx
        · rename_i hi
          rw [if_pos (by omega)]
          obtain ⟨u', h7, h8⟩ := RepL.get hr _ _ hx
          exact ⟨hone x (List.mem_of_getElem? hx), u', h7, Rep.mono up _ _ h8⟩
        · rename_i hi
          have hic := (List.getElem?_eq_some_iff.1 hx).1
          rw [if_neg (by omega)]
          obtain ⟨h7, u', h8, h9⟩ := h6 i x hx
          exact ⟨h7, u', h8, Rep.mono up _ _ h9⟩⟩)
    exact ⟨μ, hv _, k1, k2⟩
end
end Go.Ab
end

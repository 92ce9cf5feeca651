import Derived.Test.YtiamjfckgmnijaaGreatDoorFbD
set_option linter.all false
section
namespace Go.Ab
open Go
section
variable {P : Program} {B : Nat} {ops : Array Oper} {K : S → Prop} {rest : List Oper} {s : S} {d : Option Tmp} {ty : TypeId} {pos : String} {af : Array Edge} {t t' : TypeId}
theorem a_max {as : Array Operand} : AOps0 P B ops K (⟨d, .call ⟨.builtin .max, as, #[t, t']⟩, ty, pos, af, none⟩ :: rest) s = AThen P B ops K rest s d (abuiltin P B d (hall s) .max [t, t'] (as.toList.map (ev s))) := a_eff rfl
theorem a_min {as : Array Operand} : AOps0 P B ops K (⟨d, .call ⟨.builtin .min, as, #[t, t']⟩, ty, pos, af, none⟩ :: rest) s = AThen P B ops K rest s d (abuiltin P B d (hall s) .min [t, t'] (as.toList.map (ev s))) := a_eff rfl
end
section
variable {P : Program} {B : Nat} {ops : Array Oper} {K : List Ent → S → Prop} {rest : List Oper} {L : List Ent} {s : S} {gt : List Loc} {d : Option Tmp} {t t' : TypeId}
theorem h_max {as : Array Operand} : Head P B ops K rest L s gt d (.call ⟨.builtin .max, as, #[t, t']⟩) = DThen P B ops K rest L (gt ++ rds B d (.call ⟨.builtin .max, as, #[t, t']⟩) s) s d (abuiltin P B d (hr B d (.call ⟨.builtin .max, as, #[t, t']⟩) s) .max [t, t'] (as.toList.map (ev s))) := h_eff rfl
theorem h_min {as : Array Operand} : Head P B ops K rest L s gt d (.call ⟨.builtin .min, as, #[t, t']⟩) = DThen P B ops K rest L (gt ++ rds B d (.call ⟨.builtin .min, as, #[t, t']⟩) s) s d (abuiltin P B d (hr B d (.call ⟨.builtin .min, as, #[t, t']⟩) s) .min [t, t'] (as.toList.map (ev s))) := h_eff rfl
end
section
variable {P : Program} {B : Nat} {d : Option Tmp} {h : Nat → AV} {t t' : TypeId} {k : IntKind} {m n : Int}
theorem mx_l (e : m < n) : abuiltin P B d h .max [t, t'] [.sc (.int k m), .sc (.int k n)] = some (.sc (.int k n), []) := by
  show (if k = k then some (AV.sc (.int k (if m < n then n else m)), []) else none) = _
  rw [if_pos rfl, if_pos e]
theorem mx_g (e : n ≤ m) : abuiltin P B d h .max [t, t'] [.sc (.int k m), .sc (.int k n)] = some (.sc (.int k m), []) := by
  show (if k = k then some (AV.sc (.int k (if m < n then n else m)), []) else none) = _
  rw [if_pos rfl, if_neg (by omega)]
theorem mn_l (e : n < m) : abuiltin P B d h .min [t, t'] [.sc (.int k m), .sc (.int k n)] = some (.sc (.int k n), []) := by
  show (if k = k then some (AV.sc (.int k (if n < m then n else m)), []) else none) = _
  rw [if_pos rfl, if_pos e]
theorem mn_g (e : m ≤ n) : abuiltin P B d h .min [t, t'] [.sc (.int k m), .sc (.int k n)] = some (.sc (.int k m), []) := by
  show (if k = k then some (AV.sc (.int k (if n < m then n else m)), []) else none) = _
  rw [if_pos rfl, if_neg (by omega)]
end
end Go.Ab
end

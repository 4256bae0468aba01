/- A part of the proof: AIRules, AIRules2, AICps, AIDrawK, AIOpen. -/
import Derived.Lib.Strings
import Derived.WalkKit
import Derived.ProofKit
import Derived.OpenShut
import Derived.Carry
import Derived.ChangeSame
import Derived.Test.YthlogeaejcaggaaGreatDoorA2
set_option linter.all false
section
set_option linter.all false
/-! More rules for simp. -/
namespace Go.AI
open Go

theorem bEq {a b : ByteArray} : (a == b) = decide (a = b) := by
  obtain ⟨d⟩ := a
  obtain ⟨e⟩ := b
  have : (ByteArray.mk d == ByteArray.mk e) = (d == e) := rfl
  rw [this, Bool.eq_iff_iff]
  simp
theorem bEqL {a b : ByteArray} : (a.toList == b.toList) = decide (a = b) := by
  rw [ByteArray.toList_eq, ByteArray.toList_eq, Bool.eq_iff_iff]
  simp only [beq_iff_eq, decide_eq_true_eq]
  constructor
  · intro h
    obtain ⟨d⟩ := a
    obtain ⟨e⟩ := b
    simp only [ByteArray.mk.injEq]
    exact Array.toList_inj.1 h
  · intro h; rw [h]

theorem quiet_bind {α β : Type} {P : Program} (s : Sem α) (k : α → Sem β) : quiet P (s >>= k) = (quiet P s).bind fun a => quiet P (k a) := by
  show quiet P (Sem.bind s k) = _
  induction s with
  | pure a => rfl
  | program f ih => exact ih P
  | mark m f ih => exact ih
  | _ => rfl
theorem quiet_pure {α : Type} {P : Program} (a : α) : quiet P (Pure.pure a : Sem α) = some a := rfl
theorem quiet_underlying {P : Program} {t : TypeId} : quiet P (Go.underlying t) = P.underlying t := by
  unfold Go.underlying
  show quiet P (match P.underlying t with
    | some d => Pure.pure d
    | none => stuck "no such type") = _
  cases P.underlying t <;> rfl

section
variable {E : Env} {P : Program} {H : Heap} {ρ : Operand → AV} {dst : Option Tmp} {ty : TypeId} {pos : String} {after : Array Edge} {gd : Option (Nat × Bool)}

/-! ### Loads and stores -/
def oloadO (P : Program) (t : TypeId) (H : Heap) (off : Nat) : Option AObj → Option (ARes × Heap)
  | some (.box _ cs) => (aload P t cs off).map fun x => (.val x, H)
  | _ => none
theorem oload_p {t : TypeId} {id off : Nat} : oload P t H (.ptr id off) = oloadO P t H off H[id]? := by
  simp only [oload, oloadO]
  split <;> simp_all
theorem oloadO_box {t u : TypeId} {off : Nat} {cs : List AV} : oloadO P t H off (some (.box u cs)) = (aload P t cs off).map fun x => (.val x, H) := rfl
def oloadA (P : Program) (t : TypeId) (H : Heap) (n off : Nat) : Option AObj → Option (ARes × Heap)
  | some (.arr _ n' _ cs) => if n' = n then (aload P t cs off).map fun x => (.val x, H) else none
  | _ => none
theorem oload_ap {t : TypeId} {id n off : Nat} : oload P t H (.ap id n off) = oloadA P t H n off H[id]? := by
  simp only [oload, oloadA]
  split <;> simp_all
def oload1 (cs : List AV) (off : Nat) (agg : Option Bool) (size : Option Nat) : Option AV := match agg, size with
  | some true, some n => if off + n ≤ cs.length then some (.agg ((cs.drop off).take n)) else none
  | some false, some _ => cs[off]?
  | _, _ => none
theorem aload_eq {t : TypeId} {cs : List AV} {off : Nat} : aload P t cs off = oload1 cs off (isAggT P t) (sizeT P t) := rfl
theorem oload1_one {cs : List AV} {off n : Nat} : oload1 cs off (some false) (some n) = cs[off]? := rfl
theorem oload1_agg {cs : List AV} {off n : Nat} : oload1 cs off (some true) (some n) = if off + n ≤ cs.length then some (.agg ((cs.drop off).take n)) else none := rfl

def ostoreO (P : Program) (t : TypeId) (H : Heap) (id off : Nat) (x : AV) : Option AObj → Option (ARes × Heap)
  | some (.box u cs) => (astore P t cs off x).map fun cs' => (.skip, H.set id (.box u cs'))
  | _ => none
theorem ostore_p {t : TypeId} {id off : Nat} {x : AV} : ostore P t H (.ptr id off) x = ostoreO P t H id off x H[id]? := by
  simp only [ostore, ostoreO]
  split <;> simp_all
theorem ostoreO_box {t u : TypeId} {id off : Nat} {x : AV} {cs : List AV} : ostoreO P t H id off x (some (.box u cs)) = (astore P t cs off x).map fun cs' => (.skip, H.set id (.box u cs')) := rfl
def ostore1 (cells : List AV) (off : Nat) : Option (List AV) → Option Nat → Option (List AV)
  | some xs, some n => if xs.length = n ∧ off + n ≤ cells.length ∧ xs.all AV.one = true then some (splice cells off xs) else none
  | _, _ => none
theorem astore_eq {t : TypeId} {cells : List AV} {off : Nat} {x : AV} : astore P t cells off x = ostore1 cells off x.cells? (sizeT P t) := by
  unfold astore ostore1
  rfl
theorem ostore1_some {cells xs : List AV} {off n : Nat} : ostore1 cells off (some xs) (some n) = if xs.length = n ∧ off + n ≤ cells.length ∧ xs.all AV.one = true then some (splice cells off xs) else none := rfl

theorem cells_int {k : IntKind} {n : Int} : (AV.v (.int k n)).cells? = some [.v (.int k n)] := rfl
theorem cells_bool {b : Bool} : (AV.v (.bool b)).cells? = some [.v (.bool b)] := rfl
theorem cells_string {s : ByteArray} : (AV.v (.string s)).cells? = some [.v (.string s)] := rfl
theorem cells_sl {n : Nat} {cs : List AV} : (AV.sl n cs).cells? = some [.sl n cs] := rfl
theorem cells_asl {id n : Nat} : (AV.asl id n).cells? = some [.asl id n] := rfl
theorem cells_ptr {id off : Nat} : (AV.ptr id off).cells? = some [.ptr id off] := rfl
theorem cells_mp {id : Nat} : (AV.mp id).cells? = some [.mp id] := rfl
theorem cells_agg {cs : List AV} : (AV.agg cs).cells? = some cs := rfl
theorem cells_ifc {t : TypeId} {x : AV} : (AV.ifc t x).cells? = some [.ifc t x] := rfl
theorem cells_fn {f : Fn} {a b : List AV} : (AV.fn f a b).cells? = some [.fn f a b] := rfl
theorem cells_slice {a : Option Addr} {n c : Nat} : (AV.v (.slice a n c)).cells? = some [.v (.slice a n c)] := rfl
theorem cells_nilIface : (AV.v .nilIface).cells? = some [.v .nilIface] := rfl
theorem cells_pointer {a : Option Addr} : (AV.v (.pointer a)).cells? = some [.v (.pointer a)] := rfl

/-! ### Fields -/
def foff (P : Program) (q : TypeId) (i : Nat) : Option Nat := match P.underlying q with
  | some (.struct fields) => match fields[i]? with
    | some f => match sizeT P f.type with
      | some (_ + 1) => some f.offset
      | _ => none
    | none => none
  | _ => none
theorem ofield_ptr {q : TypeId} {i id off : Nat} : ofield P q i H (.ptr id off) = (foff P q i).map fun o => (.val (.ptr id (off + o)), H) := by
  unfold ofield foff
  cases P.underlying q with
  | none => rfl
  | some d =>
    cases d <;> try rfl
    rename_i fields
    simp only
    cases fields[i]? with
    | none => rfl
    | some f =>
      simp only
      rcases sizeT P f.type with _ | _ | n <;> rfl
theorem ofield_ep {q : TypeId} {i : Nat} {cs : List AV} : ofield P q i H (.ep cs) = (foff P q i).map fun o => (.val (.ep (cs.drop o)), H) := by
  unfold ofield foff
  cases P.underlying q with
  | none => rfl
  | some d =>
    cases d <;> try rfl
    rename_i fields
    simp only
    cases fields[i]? with
    | none => rfl
    | some f =>
      simp only
      rcases sizeT P f.type with _ | _ | n <;> rfl
def ofld (P : Program) (t : TypeId) (i : Nat) (H : Heap) (x : AV) : Option (ARes × Heap) := match P.underlying t, x with
    | some (.struct fields), .agg cs => match fields[i]? with
      | some f => (aload P f.type cs f.offset).map fun r => (.val r, H)
      | none => none
    | _, _ => none
theorem aop_field {t : TypeId} {x : Operand} {i : Nat} : aop E ρ ⟨dst, .field t x i, ty, pos, after, gd⟩ H = ofld E.P t i H (ρ x) := rfl
def onil (H : Heap) : AV → Option (ARes × Heap)
    | .ptr id off => some (.val (.ptr id off), H)
    | .ap id n off => some (.val (.ap id n off), H)
    | .ep cs => some (.val (.ep cs), H)
    | .fn (.func f) a b => some (.val (.fn (.func f) a b), H)
    | .ifc t y => some (.val (.ifc t y), H)
    | _ => none
theorem aop_nilCheck {x : Operand} : aop E ρ ⟨dst, .nilCheck x, ty, pos, after, gd⟩ H = onil H (ρ x) := rfl
theorem onil_ptr {id off : Nat} : onil H (.ptr id off) = some (.val (.ptr id off), H) := rfl

/-! ### What is made -/
def oext (H : Heap) (i : Nat) : AV → Option (ARes × Heap)
  | .tup vs => (vs[i]?).map fun y => (.val y, H)
  | _ => none
theorem aop_extract {x : Operand} {i : Nat} : aop E ρ ⟨dst, .extract x i, ty, pos, after, gd⟩ H = oext H i (ρ x) := rfl
theorem oext_tup {i : Nat} {vs : List AV} : oext H i (.tup vs) = (vs[i]?).map fun y => (.val y, H) := rfl
theorem aop_makeFunc {f : Fn} {a b : Array Operand} : aop E ρ ⟨dst, .makeFunc f a b, ty, pos, after, gd⟩ H = some (.val (.fn f (a.toList.map ρ) (b.toList.map ρ)), H) := rfl
def oalloc (H : Heap) (t : TypeId) : Option Value → Option (ARes × Heap)
  | some z => obox H t (conv z).cells?
  | none => none
theorem aop_alloc' {t : TypeId} : aop E ρ ⟨dst, .alloc t, ty, pos, after, gd⟩ H = oalloc H t (zeroT E.P t) := by
  cases h : zeroT E.P t with
  | none => simp only [aop, oalloc, h]
  | some z => rw [aop_alloc h]; rfl
theorem oalloc_some {t : TypeId} {z : Value} : oalloc H t (some z) = obox H t (conv z).cells? := rfl
def opan (H : Heap) : AV → Option (ARes × Heap)
  | .ifc t y => some (.pan (.ifc t y), H)
  | _ => none
theorem aop_panic {x : Operand} : aop E ρ ⟨dst, .panic x, ty, pos, after, gd⟩ H = opan H (ρ x) := rfl
theorem opan_ifc {t : TypeId} {y : AV} : opan H (.ifc t y) = some (.pan (.ifc t y), H) := rfl

theorem opick_bool {b : Bool} {x y : AV} : opick H (.v (.bool b)) x y = some (.val (bif b then x else y), H) := by cases b <;> rfl
theorem cond_bool {b x y : Bool} : (bif b then AV.v (.bool x) else AV.v (.bool y)) = AV.v (.bool (bif b then x else y)) := by cases b <;> rfl
theorem cond_int {b : Bool} {k : IntKind} {x y : Int} : (bif b then AV.v (.int k x) else AV.v (.int k y)) = AV.v (.int k (bif b then x else y)) := by cases b <;> rfl
theorem cond_str {b : Bool} {x y : ByteArray} : (bif b then AV.v (.string x) else AV.v (.string y)) = AV.v (.string (bif b then x else y)) := by cases b <;> rfl

/-! ### Strings -/
variable {t : TypeId} {x y : Operand} {a b : ByteArray}
theorem obin_seq : obin P .eql t x y H (.v (.string a)) (.v (.string b)) = some (.val (.v (.bool (decide (a = b)))), H) := by
  rw [← bEqL]; rfl
theorem obin_sne : obin P .neq t x y H (.v (.string a)) (.v (.string b)) = some (.val (.v (.bool (!decide (a = b)))), H) := by
  rw [← bEqL]; rfl
theorem obin_sadd (h : a.size + b.size < 2 ^ 62) : obin P .add t x y H (.v (.string a)) (.v (.string b)) = some (.val (.v (.string (a ++ b))), H) := by
  have hb : binOp .add t (.string a) (.string b) = if ((a.size + b.size : Nat) : Int) > IntKind.i64.max then unsupported (.resourceLimit "string concatenation: a sum of the lengths that is no int") else pure (.string (a ++ b)) := rfl
  have hg : eqGuard .add t x y (.string a) (.string b) = pure () := rfl
  have hn : ¬ (((a.size + b.size : Nat) : Int) > IntKind.i64.max) := by
    have : IntKind.i64.max = 9223372036854775807 := by decide
    rw [this]; omega
  unfold obin
  simp only [AV.un, hg, hb, if_neg hn]
  rfl
theorem olen_str (h : P.underlying t = some .string) : olen P t H #[t] ty (.v (.string a)) = some (.val (.v (goInt a.size)), H) := by
  have : quiet P (Builtin.len_ #[t] ty #[.string a]) = some (goInt a.size) := by
    unfold Builtin.len_
    have hu : quiet P (Go.underlying t) = some .string := by rw [quiet_underlying, h]
    show quiet P (Go.underlying t >>= _) = _
    rw [quiet_bind, hu]
    rfl
  simp only [olen, AV.un, this]
  rfl
end
/-! ### Lengths -/
section
variable {P : Program} {H : Heap} {t e ty : TypeId} {tys : Array TypeId}
theorem olen_asl {id n : Nat} (ht : P.underlying t = some (.slice e)) : olen P t H tys ty (.asl id n) = some (.val (.v (goInt n)), H) := by simp [olen, ht]
theorem olen_bsl {id o n : Nat} (ht : P.underlying t = some (.slice e)) : olen P t H tys ty (.bsl id o n) = some (.val (.v (goInt n)), H) := by simp [olen, ht]
theorem olen_nil (h : P.underlying t = some (.slice e)) : olen P t H #[t] ty (.v (.slice none 0 0)) = some (.val (.v (goInt 0)), H) := by
  have : quiet P (Builtin.len_ #[t] ty #[.slice none 0 0]) = some (goInt 0) := by
    unfold Builtin.len_
    show quiet P (Go.underlying t >>= _) = _
    rw [quiet_bind, quiet_underlying, h]
    rfl
  simp only [olen, AV.un, this]
  rfl
end
/-! ### Numbers -/
section
variable {P : Program} {H : Heap} {t : TypeId} {x y : Operand} {a b : Int}
theorem oc_lss :
    (∀ {P : Program} {H : Heap} {t : TypeId} {x y : Operand} {a b : Int}, obin P .lss t x y H (.v (.int .i64 a)) (.v (.int .i64 b)) = some (.val (.v (.bool (decide (a < b)))), H)) ∧
    (∀ {P : Program} {H : Heap} {t : TypeId} {x y : Operand} {a b : Int}, obin P .lss t x y H (.v (.int .u8 a)) (.v (.int .u8 b)) = some (.val (.v (.bool (decide (a < b)))), H)) ∧
    (∀ {P : Program} {H : Heap} {t : TypeId} {x y : Operand} {a b : Int}, obin P .lss t x y H (.v (.int .u32 a)) (.v (.int .u32 b)) = some (.val (.v (.bool (decide (a < b)))), H)) ∧
    (∀ {P : Program} {H : Heap} {t : TypeId} {x y : Operand} {a b : Int}, obin P .lss t x y H (.v (.int .u64 a)) (.v (.int .u64 b)) = some (.val (.v (.bool (decide (a < b)))), H)) ∧
    (∀ {P : Program} {H : Heap} {t : TypeId} {x y : Operand} {a b : Int}, obin P .lss t x y H (.v (.int .i32 a)) (.v (.int .i32 b)) = some (.val (.v (.bool (decide (a < b)))), H)) ∧
    (∀ {P : Program} {H : Heap} {t : TypeId} {x y : Operand} {a b : Int}, obin P .lss t x y H (.v (.int .i8 a)) (.v (.int .i8 b)) = some (.val (.v (.bool (decide (a < b)))), H)) ∧
    (∀ {P : Program} {H : Heap} {t : TypeId} {x y : Operand} {a b : Int}, obin P .lss t x y H (.v (.int .u16 a)) (.v (.int .u16 b)) = some (.val (.v (.bool (decide (a < b)))), H)) := ⟨rfl, rfl, rfl, rfl, rfl, rfl, rfl⟩
theorem oc_leq :
    (∀ {P : Program} {H : Heap} {t : TypeId} {x y : Operand} {a b : Int}, obin P .leq t x y H (.v (.int .i64 a)) (.v (.int .i64 b)) = some (.val (.v (.bool (decide (a ≤ b)))), H)) ∧
    (∀ {P : Program} {H : Heap} {t : TypeId} {x y : Operand} {a b : Int}, obin P .leq t x y H (.v (.int .u8 a)) (.v (.int .u8 b)) = some (.val (.v (.bool (decide (a ≤ b)))), H)) ∧
    (∀ {P : Program} {H : Heap} {t : TypeId} {x y : Operand} {a b : Int}, obin P .leq t x y H (.v (.int .u32 a)) (.v (.int .u32 b)) = some (.val (.v (.bool (decide (a ≤ b)))), H)) ∧
    (∀ {P : Program} {H : Heap} {t : TypeId} {x y : Operand} {a b : Int}, obin P .leq t x y H (.v (.int .u64 a)) (.v (.int .u64 b)) = some (.val (.v (.bool (decide (a ≤ b)))), H)) ∧
    (∀ {P : Program} {H : Heap} {t : TypeId} {x y : Operand} {a b : Int}, obin P .leq t x y H (.v (.int .i32 a)) (.v (.int .i32 b)) = some (.val (.v (.bool (decide (a ≤ b)))), H)) ∧
    (∀ {P : Program} {H : Heap} {t : TypeId} {x y : Operand} {a b : Int}, obin P .leq t x y H (.v (.int .i8 a)) (.v (.int .i8 b)) = some (.val (.v (.bool (decide (a ≤ b)))), H)) ∧
    (∀ {P : Program} {H : Heap} {t : TypeId} {x y : Operand} {a b : Int}, obin P .leq t x y H (.v (.int .u16 a)) (.v (.int .u16 b)) = some (.val (.v (.bool (decide (a ≤ b)))), H)) := ⟨rfl, rfl, rfl, rfl, rfl, rfl, rfl⟩
theorem oc_gtr :
    (∀ {P : Program} {H : Heap} {t : TypeId} {x y : Operand} {a b : Int}, obin P .gtr t x y H (.v (.int .i64 a)) (.v (.int .i64 b)) = some (.val (.v (.bool (decide (a > b)))), H)) ∧
    (∀ {P : Program} {H : Heap} {t : TypeId} {x y : Operand} {a b : Int}, obin P .gtr t x y H (.v (.int .u8 a)) (.v (.int .u8 b)) = some (.val (.v (.bool (decide (a > b)))), H)) ∧
    (∀ {P : Program} {H : Heap} {t : TypeId} {x y : Operand} {a b : Int}, obin P .gtr t x y H (.v (.int .u32 a)) (.v (.int .u32 b)) = some (.val (.v (.bool (decide (a > b)))), H)) ∧
    (∀ {P : Program} {H : Heap} {t : TypeId} {x y : Operand} {a b : Int}, obin P .gtr t x y H (.v (.int .u64 a)) (.v (.int .u64 b)) = some (.val (.v (.bool (decide (a > b)))), H)) ∧
    (∀ {P : Program} {H : Heap} {t : TypeId} {x y : Operand} {a b : Int}, obin P .gtr t x y H (.v (.int .i32 a)) (.v (.int .i32 b)) = some (.val (.v (.bool (decide (a > b)))), H)) ∧
    (∀ {P : Program} {H : Heap} {t : TypeId} {x y : Operand} {a b : Int}, obin P .gtr t x y H (.v (.int .i8 a)) (.v (.int .i8 b)) = some (.val (.v (.bool (decide (a > b)))), H)) ∧
    (∀ {P : Program} {H : Heap} {t : TypeId} {x y : Operand} {a b : Int}, obin P .gtr t x y H (.v (.int .u16 a)) (.v (.int .u16 b)) = some (.val (.v (.bool (decide (a > b)))), H)) := ⟨rfl, rfl, rfl, rfl, rfl, rfl, rfl⟩
theorem oc_geq :
    (∀ {P : Program} {H : Heap} {t : TypeId} {x y : Operand} {a b : Int}, obin P .geq t x y H (.v (.int .i64 a)) (.v (.int .i64 b)) = some (.val (.v (.bool (decide (a ≥ b)))), H)) ∧
    (∀ {P : Program} {H : Heap} {t : TypeId} {x y : Operand} {a b : Int}, obin P .geq t x y H (.v (.int .u8 a)) (.v (.int .u8 b)) = some (.val (.v (.bool (decide (a ≥ b)))), H)) ∧
    (∀ {P : Program} {H : Heap} {t : TypeId} {x y : Operand} {a b : Int}, obin P .geq t x y H (.v (.int .u32 a)) (.v (.int .u32 b)) = some (.val (.v (.bool (decide (a ≥ b)))), H)) ∧
    (∀ {P : Program} {H : Heap} {t : TypeId} {x y : Operand} {a b : Int}, obin P .geq t x y H (.v (.int .u64 a)) (.v (.int .u64 b)) = some (.val (.v (.bool (decide (a ≥ b)))), H)) ∧
    (∀ {P : Program} {H : Heap} {t : TypeId} {x y : Operand} {a b : Int}, obin P .geq t x y H (.v (.int .i32 a)) (.v (.int .i32 b)) = some (.val (.v (.bool (decide (a ≥ b)))), H)) ∧
    (∀ {P : Program} {H : Heap} {t : TypeId} {x y : Operand} {a b : Int}, obin P .geq t x y H (.v (.int .i8 a)) (.v (.int .i8 b)) = some (.val (.v (.bool (decide (a ≥ b)))), H)) ∧
    (∀ {P : Program} {H : Heap} {t : TypeId} {x y : Operand} {a b : Int}, obin P .geq t x y H (.v (.int .u16 a)) (.v (.int .u16 b)) = some (.val (.v (.bool (decide (a ≥ b)))), H)) := ⟨rfl, rfl, rfl, rfl, rfl, rfl, rfl⟩
theorem oc_eql :
    (∀ {P : Program} {H : Heap} {t : TypeId} {x y : Operand} {a b : Int}, obin P .eql t x y H (.v (.int .i64 a)) (.v (.int .i64 b)) = some (.val (.v (.bool (a == b))), H)) ∧
    (∀ {P : Program} {H : Heap} {t : TypeId} {x y : Operand} {a b : Int}, obin P .eql t x y H (.v (.int .u8 a)) (.v (.int .u8 b)) = some (.val (.v (.bool (a == b))), H)) ∧
    (∀ {P : Program} {H : Heap} {t : TypeId} {x y : Operand} {a b : Int}, obin P .eql t x y H (.v (.int .u32 a)) (.v (.int .u32 b)) = some (.val (.v (.bool (a == b))), H)) ∧
    (∀ {P : Program} {H : Heap} {t : TypeId} {x y : Operand} {a b : Int}, obin P .eql t x y H (.v (.int .u64 a)) (.v (.int .u64 b)) = some (.val (.v (.bool (a == b))), H)) ∧
    (∀ {P : Program} {H : Heap} {t : TypeId} {x y : Operand} {a b : Int}, obin P .eql t x y H (.v (.int .i32 a)) (.v (.int .i32 b)) = some (.val (.v (.bool (a == b))), H)) ∧
    (∀ {P : Program} {H : Heap} {t : TypeId} {x y : Operand} {a b : Int}, obin P .eql t x y H (.v (.int .i8 a)) (.v (.int .i8 b)) = some (.val (.v (.bool (a == b))), H)) ∧
    (∀ {P : Program} {H : Heap} {t : TypeId} {x y : Operand} {a b : Int}, obin P .eql t x y H (.v (.int .u16 a)) (.v (.int .u16 b)) = some (.val (.v (.bool (a == b))), H)) := ⟨rfl, rfl, rfl, rfl, rfl, rfl, rfl⟩
theorem oc_neq :
    (∀ {P : Program} {H : Heap} {t : TypeId} {x y : Operand} {a b : Int}, obin P .neq t x y H (.v (.int .i64 a)) (.v (.int .i64 b)) = some (.val (.v (.bool (a != b))), H)) ∧
    (∀ {P : Program} {H : Heap} {t : TypeId} {x y : Operand} {a b : Int}, obin P .neq t x y H (.v (.int .u8 a)) (.v (.int .u8 b)) = some (.val (.v (.bool (a != b))), H)) ∧
    (∀ {P : Program} {H : Heap} {t : TypeId} {x y : Operand} {a b : Int}, obin P .neq t x y H (.v (.int .u32 a)) (.v (.int .u32 b)) = some (.val (.v (.bool (a != b))), H)) ∧
    (∀ {P : Program} {H : Heap} {t : TypeId} {x y : Operand} {a b : Int}, obin P .neq t x y H (.v (.int .u64 a)) (.v (.int .u64 b)) = some (.val (.v (.bool (a != b))), H)) ∧
    (∀ {P : Program} {H : Heap} {t : TypeId} {x y : Operand} {a b : Int}, obin P .neq t x y H (.v (.int .i32 a)) (.v (.int .i32 b)) = some (.val (.v (.bool (a != b))), H)) ∧
    (∀ {P : Program} {H : Heap} {t : TypeId} {x y : Operand} {a b : Int}, obin P .neq t x y H (.v (.int .i8 a)) (.v (.int .i8 b)) = some (.val (.v (.bool (a != b))), H)) ∧
    (∀ {P : Program} {H : Heap} {t : TypeId} {x y : Operand} {a b : Int}, obin P .neq t x y H (.v (.int .u16 a)) (.v (.int .u16 b)) = some (.val (.v (.bool (a != b))), H)) := ⟨rfl, rfl, rfl, rfl, rfl, rfl, rfl⟩
theorem oa_add :
    (∀ {P : Program} {H : Heap} {t : TypeId} {x y : Operand} {a b : Int}, obin P .add t x y H (.v (.int .i64 a)) (.v (.int .i64 b)) = some (.val (.v (.int .i64 (IntKind.i64.wrap (a + b)))), H)) ∧
    (∀ {P : Program} {H : Heap} {t : TypeId} {x y : Operand} {a b : Int}, obin P .add t x y H (.v (.int .u8 a)) (.v (.int .u8 b)) = some (.val (.v (.int .u8 (IntKind.u8.wrap (a + b)))), H)) ∧
    (∀ {P : Program} {H : Heap} {t : TypeId} {x y : Operand} {a b : Int}, obin P .add t x y H (.v (.int .u32 a)) (.v (.int .u32 b)) = some (.val (.v (.int .u32 (IntKind.u32.wrap (a + b)))), H)) ∧
    (∀ {P : Program} {H : Heap} {t : TypeId} {x y : Operand} {a b : Int}, obin P .add t x y H (.v (.int .u64 a)) (.v (.int .u64 b)) = some (.val (.v (.int .u64 (IntKind.u64.wrap (a + b)))), H)) ∧
    (∀ {P : Program} {H : Heap} {t : TypeId} {x y : Operand} {a b : Int}, obin P .add t x y H (.v (.int .i32 a)) (.v (.int .i32 b)) = some (.val (.v (.int .i32 (IntKind.i32.wrap (a + b)))), H)) ∧
    (∀ {P : Program} {H : Heap} {t : TypeId} {x y : Operand} {a b : Int}, obin P .add t x y H (.v (.int .i8 a)) (.v (.int .i8 b)) = some (.val (.v (.int .i8 (IntKind.i8.wrap (a + b)))), H)) ∧
    (∀ {P : Program} {H : Heap} {t : TypeId} {x y : Operand} {a b : Int}, obin P .add t x y H (.v (.int .u16 a)) (.v (.int .u16 b)) = some (.val (.v (.int .u16 (IntKind.u16.wrap (a + b)))), H)) := ⟨rfl, rfl, rfl, rfl, rfl, rfl, rfl⟩
theorem oa_sub :
    (∀ {P : Program} {H : Heap} {t : TypeId} {x y : Operand} {a b : Int}, obin P .sub t x y H (.v (.int .i64 a)) (.v (.int .i64 b)) = some (.val (.v (.int .i64 (IntKind.i64.wrap (a - b)))), H)) ∧
    (∀ {P : Program} {H : Heap} {t : TypeId} {x y : Operand} {a b : Int}, obin P .sub t x y H (.v (.int .u8 a)) (.v (.int .u8 b)) = some (.val (.v (.int .u8 (IntKind.u8.wrap (a - b)))), H)) ∧
    (∀ {P : Program} {H : Heap} {t : TypeId} {x y : Operand} {a b : Int}, obin P .sub t x y H (.v (.int .u32 a)) (.v (.int .u32 b)) = some (.val (.v (.int .u32 (IntKind.u32.wrap (a - b)))), H)) ∧
    (∀ {P : Program} {H : Heap} {t : TypeId} {x y : Operand} {a b : Int}, obin P .sub t x y H (.v (.int .u64 a)) (.v (.int .u64 b)) = some (.val (.v (.int .u64 (IntKind.u64.wrap (a - b)))), H)) ∧
    (∀ {P : Program} {H : Heap} {t : TypeId} {x y : Operand} {a b : Int}, obin P .sub t x y H (.v (.int .i32 a)) (.v (.int .i32 b)) = some (.val (.v (.int .i32 (IntKind.i32.wrap (a - b)))), H)) ∧
    (∀ {P : Program} {H : Heap} {t : TypeId} {x y : Operand} {a b : Int}, obin P .sub t x y H (.v (.int .i8 a)) (.v (.int .i8 b)) = some (.val (.v (.int .i8 (IntKind.i8.wrap (a - b)))), H)) ∧
    (∀ {P : Program} {H : Heap} {t : TypeId} {x y : Operand} {a b : Int}, obin P .sub t x y H (.v (.int .u16 a)) (.v (.int .u16 b)) = some (.val (.v (.int .u16 (IntKind.u16.wrap (a - b)))), H)) := ⟨rfl, rfl, rfl, rfl, rfl, rfl, rfl⟩
theorem oa_mul :
    (∀ {P : Program} {H : Heap} {t : TypeId} {x y : Operand} {a b : Int}, obin P .mul t x y H (.v (.int .i64 a)) (.v (.int .i64 b)) = some (.val (.v (.int .i64 (IntKind.i64.wrap (a * b)))), H)) ∧
    (∀ {P : Program} {H : Heap} {t : TypeId} {x y : Operand} {a b : Int}, obin P .mul t x y H (.v (.int .u8 a)) (.v (.int .u8 b)) = some (.val (.v (.int .u8 (IntKind.u8.wrap (a * b)))), H)) ∧
    (∀ {P : Program} {H : Heap} {t : TypeId} {x y : Operand} {a b : Int}, obin P .mul t x y H (.v (.int .u32 a)) (.v (.int .u32 b)) = some (.val (.v (.int .u32 (IntKind.u32.wrap (a * b)))), H)) ∧
    (∀ {P : Program} {H : Heap} {t : TypeId} {x y : Operand} {a b : Int}, obin P .mul t x y H (.v (.int .u64 a)) (.v (.int .u64 b)) = some (.val (.v (.int .u64 (IntKind.u64.wrap (a * b)))), H)) ∧
    (∀ {P : Program} {H : Heap} {t : TypeId} {x y : Operand} {a b : Int}, obin P .mul t x y H (.v (.int .i32 a)) (.v (.int .i32 b)) = some (.val (.v (.int .i32 (IntKind.i32.wrap (a * b)))), H)) ∧
    (∀ {P : Program} {H : Heap} {t : TypeId} {x y : Operand} {a b : Int}, obin P .mul t x y H (.v (.int .i8 a)) (.v (.int .i8 b)) = some (.val (.v (.int .i8 (IntKind.i8.wrap (a * b)))), H)) ∧
    (∀ {P : Program} {H : Heap} {t : TypeId} {x y : Operand} {a b : Int}, obin P .mul t x y H (.v (.int .u16 a)) (.v (.int .u16 b)) = some (.val (.v (.int .u16 (IntKind.u16.wrap (a * b)))), H)) := ⟨rfl, rfl, rfl, rfl, rfl, rfl, rfl⟩
end
end Go.AI
end
section
set_option linter.all false
/-! Strings cut and read; conversions; appends. -/
namespace Go.AI
open Go
section
variable {E : Env} {P : Program} {H : Heap} {ρ : Operand → AV} {dst : Option Tmp} {ty t : TypeId} {pos : String} {after : Array Edge} {gd : Option (Nat × Bool)} {s : ByteArray}

def oslice (P : Program) (t : TypeId) (H : Heap) (x : AV) (lo hi : Option AV) : Option (ARes × Heap) := match x with
      | .sl n cs => match P.underlying t with
        | some (.slice e) => match sizeT P e, lo.getD (.v (.int .i64 0)), hi.getD (.v (.int .i64 n)) with
          | some size, .v (.int _ l), .v (.int _ h) => if 0 ≤ l ∧ l ≤ h ∧ h ≤ n then
              some (.val (.sl (h.toNat - l.toNat) ((cs.drop (l.toNat * size)).take ((h.toNat - l.toNat) * size))), H)
            else none
          | _, _, _ => none
        | _ => none
      | .ptr id off => match P.underlying t with
        | some (.array len e) => match sizeT P e, lo.getD (.v (.int .i64 0)), hi.getD (.v (.int .i64 len)) with
          | some size, .v (.int _ l), .v (.int _ h) => if 0 ≤ l ∧ l ≤ h ∧ h ≤ len ∧ l < len then
              some (.val (.bsl id (off + l.toNat * size) (h.toNat - l.toNat)), H)
            else none
          | _, _, _ => none
        | _ => none
      | y => match y.un with
        | some a => match (match lo with | none => some none | some q => (q.un).map some), (match hi with | none => some none | some q => (q.un).map some) with
          | some l, some h => (quiet P (Instr.sliceAt t a l h none)).map fun r => (.val (conv r), H)
          | _, _ => none
        | none => none
theorem aop_slice_nn {x : Operand} : aop E ρ ⟨dst, .slice t x none none none, ty, pos, after, gd⟩ H = oslice E.P t H (ρ x) none none := rfl
theorem aop_slice_sn {x lo : Operand} : aop E ρ ⟨dst, .slice t x (some lo) none none, ty, pos, after, gd⟩ H = oslice E.P t H (ρ x) (some (ρ lo)) none := rfl
theorem aop_slice_ns {x hi : Operand} : aop E ρ ⟨dst, .slice t x none (some hi) none, ty, pos, after, gd⟩ H = oslice E.P t H (ρ x) none (some (ρ hi)) := rfl
theorem aop_slice_ss {x lo hi : Operand} : aop E ρ ⟨dst, .slice t x (some lo) (some hi) none, ty, pos, after, gd⟩ H = oslice E.P t H (ρ x) (some (ρ lo)) (some (ρ hi)) := rfl

theorem bound_ok {k : IntKind} {n : Int} {cap : Nat} {why} (h0 : 0 ≤ n) (h1 : n ≤ cap) : Instr.sliceBound (.int k n) cap why = pure n.toNat := by
  unfold Instr.sliceBound
  show (do let p ← asIntOf (.int k n); _) = _
  have : asIntOf (.int k n) = pure (k, n) := rfl
  rw [this]
  show (if _ then _ else _) = _
  rw [if_pos ⟨h0, h1⟩]

theorem q_lo {k : IntKind} {l : Int} {n : Nat} (h0 : 0 ≤ l) (h1 : l ≤ n) : quiet P (Instr.sliceBounds false n n (some (.int k l)) none none) = some (l.toNat, n, n) := by
  unfold Instr.sliceBounds
  simp [quiet_bind, quiet_pure, bound_ok h0 h1]
theorem q_hi {k : IntKind} {h : Int} {n : Nat} (h0 : 0 ≤ h) (h1 : h ≤ n) : quiet P (Instr.sliceBounds false n n none (some (.int k h)) none) = some (0, h.toNat, n) := by
  unfold Instr.sliceBounds
  simp [quiet_bind, quiet_pure, bound_ok h0 h1]
theorem q_lohi {k k' : IntKind} {l h : Int} {n : Nat} (h0 : 0 ≤ l) (h1 : l ≤ h) (h2 : h ≤ n) : quiet P (Instr.sliceBounds false n n (some (.int k l)) (some (.int k' h)) none) = some (l.toNat, h.toNat, n) := by
  unfold Instr.sliceBounds
  have e1 : l ≤ (h.toNat : Int) := by omega
  simp [quiet_bind, quiet_pure, bound_ok (by omega : 0 ≤ h) h2, bound_ok h0 e1]
theorem quiet_slice {l h : Option Value} (ht : P.underlying t = some .string) : quiet P (Instr.sliceAt t (.string s) l h none) = (quiet P (Instr.sliceBounds false s.size s.size l h none)).map fun p => .string (s.extract p.1 p.2.1) := by
  unfold Instr.sliceAt
  rw [quiet_bind, quiet_underlying, ht]
  simp only [Option.bind_some]
  unfold Instr.slice
  rw [quiet_bind, quiet_underlying, ht]
  simp only [Option.bind_some]
  simp only [Option.isSome_none, Bool.false_eq_true, if_false]
  rw [quiet_bind]
  cases quiet P (Instr.sliceBounds false s.size s.size l h none) <;> rfl
theorem osl_lo {k : IntKind} {l : Int} (ht : P.underlying t = some .string) (h0 : 0 ≤ l) (h1 : l ≤ s.size) : oslice P t H (.v (.string s)) (some (.v (.int k l))) none = some (.val (.v (.string (s.extract l.toNat s.size))), H) := by
  simp only [oslice, AV.un, Option.map_some, quiet_slice ht, q_lo h0 h1]
  rfl
theorem osl_hi {k : IntKind} {h : Int} (ht : P.underlying t = some .string) (h0 : 0 ≤ h) (h1 : h ≤ s.size) : oslice P t H (.v (.string s)) none (some (.v (.int k h))) = some (.val (.v (.string (s.extract 0 h.toNat))), H) := by
  simp only [oslice, AV.un, Option.map_some, quiet_slice ht, q_hi h0 h1]
  rfl
theorem osl_lohi {k k' : IntKind} {l h : Int} (ht : P.underlying t = some .string) (h0 : 0 ≤ l) (h1 : l ≤ h) (h2 : h ≤ s.size) : oslice P t H (.v (.string s)) (some (.v (.int k l))) (some (.v (.int k' h))) = some (.val (.v (.string (s.extract l.toNat h.toNat))), H) := by
  simp only [oslice, AV.un, Option.map_some, quiet_slice ht, q_lohi h0 h1 h2]
  rfl

def oindexV (P : Program) (t : TypeId) (H : Heap) (x ix : AV) : Option (ARes × Heap) := match x.un, ix.un with
    | some a, some i => (quiet P (Instr.index t a i)).map fun r => (.val (conv r), H)
    | _, _ => none
theorem aop_indexV {x ix : Operand} : aop E ρ ⟨dst, .index t x ix, ty, pos, after, gd⟩ H = oindexV E.P t H (ρ x) (ρ ix) := rfl
theorem oidx_str {k : IntKind} {i : Int} {b : UInt8} (ht : P.underlying t = some .string) (h0 : 0 ≤ i) (hb : s.data.toList[i.toNat]? = some b) : oindexV P t H (.v (.string s)) (.v (.int k i)) = some (.val (.v (.int .u8 b.toNat)), H) := by
  have hq : quiet P (Instr.index t (.string s) (.int k i)) = some (.int .u8 b.toNat) := by
    unfold Instr.index
    have ha : asIntOf (.int k i) = pure (k, i) := rfl
    rw [ha]
    show quiet P (Go.underlying t >>= _) = _
    rw [quiet_bind, quiet_underlying, ht]
    simp only [Option.bind_some]
    have hs : s[i.toNat]? = some b := by
      have hl : i.toNat < s.data.toList.length := (List.getElem?_eq_some_iff.1 hb).1
      have hl' : i.toNat < s.size := by simpa using hl
      rw [getElem?_pos s i.toNat hl']
      have := (List.getElem?_eq_some_iff.1 hb).2
      rw [← this]
      rfl
    rw [if_pos h0, hs]
    rfl
  simp only [oindexV, AV.un, hq]
  rfl

/-! ### Conversions -/
def oconv (P : Program) (s d : TypeId) (H : Heap) (x : AV) : Option (ARes × Heap) := match P.underlying s, P.underlying d, x with
    | some .string, some (.slice e), .v (.string b) => match P.underlying e with
      | some (.int .u8) => some (.val (.sl b.size (bytesAV b)), H)
      | _ => none
    | some (.slice _), some (.slice e), .asl id n => match P.underlying e, H[id]? with
      | some (.int .u8), some (.arr e' n' _ cs) => if s = d ∧ n' = n then some (.val (.asl id n), H.set id (.arr e' n true cs)) else none
      | _, _ => none
    | some (.slice e), some .string, .sl n cs => match P.underlying e, byteCells cs with
      | some (.int .u8), some bs => if bs.length = n then some (.val (.v (.string ⟨bs.toArray⟩)), H) else none
      | _, _ => none
    | some (.slice e), some .string, .bsl id off n => match P.underlying e, H[id]? with
      | some (.int .u8), some (.box _ cs) => if off + n ≤ cs.length then match byteCells ((cs.drop off).take n) with
          | some bs => if bs.length = n then some (.val (.v (.string ⟨bs.toArray⟩)), H) else none
          | none => none
        else none
      | _, _ => none
    | some (.slice e), some .string, .asl id n => match P.underlying e, H[id]? with
      | some (.int .u8), some (.arr _ n' _ cs) => if n' = n then match byteCells cs with
          | some bs => if bs.length = n then some (.val (.v (.string ⟨bs.toArray⟩)), H) else none
          | none => none
        else none
      | _, _ => none
    | some (.pointer t), some .unsafePointer, .ptr id off => match sizeT P t, H[id]? with
      | some (_ + 1), some (.box _ cs) => if off < cs.length then some (.val (.ptr id off), H) else none
      | _, _ => none
    | some .unsafePointer, some (.pointer u), .ptr id off => match sizeT P u, H[id]? with
      | some (_ + 1), some (.box t cs) => if liesAt P P.depth t (cs.length / P.cellsOf t) off u 1 then some (.val (.ptr id off), H) else none
      | _, _ => none
    | _, _, y => match y.un with
      | some a => (quiet P (convert s d a)).map fun r => (.val (conv r), H)
      | none => none
theorem aop_conv {s d : TypeId} {x : Operand} : aop E ρ ⟨dst, .convert s d x, ty, pos, after, gd⟩ H = oconv E.P s d H (ρ x) := rfl
variable {c d e : TypeId}
theorem oconv_sb (hc : P.underlying c = some .string) (hd : P.underlying d = some (.slice e)) (he : P.underlying e = some (.int .u8)) : oconv P c d H (.v (.string s)) = some (.val (.sl s.size (bytesAV s)), H) := by
  simp only [oconv, hc, hd, he]
theorem byteCells_map : ∀ l : List UInt8, byteCells (l.map fun b => AV.v (.int .u8 b.toNat)) = some l
  | [] => rfl
  | b :: l => by
    simp only [List.map_cons, byteCells, byteCells_map l]
    have h1 : (0 : Int) ≤ (b.toNat : Int) ∧ (b.toNat : Int) ≤ 255 := ⟨Int.natCast_nonneg _, by have := b.toNat_lt; omega⟩
    rw [if_pos h1]
    simp
theorem byteCells_bytes : byteCells (bytesAV s) = some s.data.toList := byteCells_map _
theorem mk_toList : (⟨s.data.toList.toArray⟩ : ByteArray) = s := by simp
theorem oconv_bs (hc : P.underlying c = some (.slice e)) (hd : P.underlying d = some .string) (he : P.underlying e = some (.int .u8)) : oconv P c d H (.sl s.size (bytesAV s)) = some (.val (.v (.string s)), H) := by
  have hl : s.data.toList.length = s.size := by simp
  simp only [oconv, hc, hd, he, byteCells_bytes, hl, if_true, mk_toList]
theorem oconv_as {id : Nat} {u : TypeId} {fz : Bool} (hc : P.underlying c = some (.slice e)) (hd : P.underlying d = some .string) (he : P.underlying e = some (.int .u8)) (hH : H[id]? = some (.arr u s.size fz (bytesAV s))) : oconv P c d H (.asl id s.size) = some (.val (.v (.string s)), H) := by
  have hl : s.data.toList.length = s.size := by simp
  simp only [oconv, hc, hd, he, hH, byteCells_bytes, hl, if_true, mk_toList]

/-! ### Appends -/
theorem bytesAV_append {s t : ByteArray} : bytesAV (s ++ t) = bytesAV s ++ bytesAV t := by
  simp [bytesAV]
theorem bytesAV_length : (bytesAV s).length = s.size := by simp [bytesAV]
theorem bytesAV_one : (bytesAV s).all AV.one = true := by
  rw [List.all_eq_true]
  intro x hx
  simp only [bytesAV, List.mem_map] at hx
  obtain ⟨b, _, rfl⟩ := hx
  rfl
theorem bytesAV_under {n : Nat} : AV.underL n (bytesAV s) = true := by
  unfold bytesAV
  induction s.data.toList with
  | nil => rfl
  | cons b l ih => simpa [AV.underL, AV.under] using ih
end
end Go.AI
end
section
set_option linter.all false
/-! The abstract run with what is still to come in a list: where a condition isn't told, it stands at the head. -/
namespace Go.AI
open Go

inductive AFr where
  | seq (b : Code)
  | blk (id : Nat)

section
variable {R : Type} {E : Env} {call : CallFn} {fuel : Nat} {ops : Array Oper} {r : List Oper} {dst : Option Tmp} {tm : List AV} {df : List (Fn × List AV × List AV)} {H H' : Heap} {s : St} {K : List AFr} {fin : Option (AExit × St) → R}

def aK (E : Env) (call : CallFn) (fuel : Nat) (fin : Option (AExit × St) → R) : List AFr → Option (AExit × St) → R
  | [], x => fin x
  | .seq b :: K, x => aK E call fuel fin K (abind (acode E call fuel b) x)
  | .blk id :: K, x => aK E call fuel fin K (ablock id x)

theorem aK_start {x : Option (AExit × St)} : fin x = aK E call fuel fin [] x := rfl
theorem aK_seq {a b : Code} : aK E call fuel fin K (acode E call fuel (.seq a b) s) = aK E call fuel fin (.seq b :: K) (acode E call fuel a s) := by
  rw [acode_seq]; rfl
theorem aK_block {id : Nat} {b : Code} : aK E call fuel fin K (acode E call fuel (.block id b) s) = aK E call fuel fin (.blk id :: K) (acode E call fuel b s) := by
  rw [acode_block]; rfl
theorem aK_region {id : Nat} {ops : Array Oper} : aK E call fuel fin K (acode E call fuel (.region id ops false) s) = aK E call fuel fin K (aops E call ops ops.toList s) := by
  rw [acode_region]
theorem aK_skip : aK E call fuel fin K (acode E call fuel .skip s) = aK E call fuel fin K (some (.normal, s)) := rfl
theorem aK_exit {id : Nat} : aK E call fuel fin K (acode E call fuel (.exit id) s) = aK E call fuel fin K (some (.exit id, s)) := rfl
theorem aK_ret : aK E call fuel fin K (acode E call fuel .ret s) = aK E call fuel fin K (some (.ret, s)) := rfl
theorem aK_loop {b : Code} : aK E call fuel fin K (acode E call fuel (.loop b) s) = aK E call fuel fin K (aloop (acode E call fuel b) fuel s) := rfl
theorem aK_seq_n {b : Code} : aK E call fuel fin (.seq b :: K) (some (.normal, s)) = aK E call fuel fin K (acode E call fuel b s) := rfl
theorem aK_seq_e {b : Code} {i : Nat} : aK E call fuel fin (.seq b :: K) (some (.exit i, s)) = aK E call fuel fin K (some (.exit i, s)) := rfl
theorem aK_seq_r {b : Code} : aK E call fuel fin (.seq b :: K) (some (.ret, s)) = aK E call fuel fin K (some (.ret, s)) := rfl
theorem aK_seq_p {b : Code} {x : AV} : aK E call fuel fin (.seq b :: K) (some (.pan x, s)) = aK E call fuel fin K (some (.pan x, s)) := rfl
theorem aK_blk_n {id : Nat} : aK E call fuel fin (.blk id :: K) (some (.normal, s)) = aK E call fuel fin K (some (.normal, s)) := rfl
theorem aK_blk_e {id j : Nat} : aK E call fuel fin (.blk id :: K) (some (.exit j, s)) = aK E call fuel fin K (if j = id then some (.normal, s) else some (.exit j, s)) := rfl
theorem aK_blk_r {id : Nat} : aK E call fuel fin (.blk id :: K) (some (.ret, s)) = aK E call fuel fin K (some (.ret, s)) := rfl
theorem aK_blk_p {id : Nat} {x : AV} : aK E call fuel fin (.blk id :: K) (some (.pan x, s)) = aK E call fuel fin K (some (.pan x, s)) := rfl
theorem aK_nil {x : Option (AExit × St)} : aK E call fuel fin [] x = fin x := rfl
theorem aK_nil_n : aK E call fuel fin [] (some (.normal, s)) = fin (some (.normal, s)) := rfl
theorem aK_nil_e {i : Nat} : aK E call fuel fin [] (some (.exit i, s)) = fin (some (.exit i, s)) := rfl
theorem aK_nil_r : aK E call fuel fin [] (some (.ret, s)) = fin (some (.ret, s)) := rfl
theorem aK_nil_p {x : AV} : aK E call fuel fin [] (some (.pan x, s)) = fin (some (.pan x, s)) := rfl

theorem aK_true {c : Operand} {a b : Code} (h : aval E s.tm c = .v (.bool true)) : aK E call fuel fin K (acode E call fuel (.cond c a b) s) = aK E call fuel fin K (acode E call fuel a s) := by rw [acode_true h]
theorem aK_false {c : Operand} {a b : Code} (h : aval E s.tm c = .v (.bool false)) : aK E call fuel fin K (acode E call fuel (.cond c a b) s) = aK E call fuel fin K (acode E call fuel b s) := by rw [acode_false h]

/-- A condition that isn't told. -/
def abr (E : Env) (call : CallFn) (fuel : Nat) (fin : Option (AExit × St) → R) (K : List AFr) (a b : Code) (s : St) (x : AV) : R := aK E call fuel fin K (acond (acode E call fuel a s) (acode E call fuel b s) x)
theorem aK_cond {c : Operand} {a b : Code} : aK E call fuel fin K (acode E call fuel (.cond c a b) s) = abr E call fuel fin K a b s (aval E s.tm c) := by rw [acode_cond]; rfl
theorem abr_true {a b : Code} : abr E call fuel fin K a b s (.v (.bool true)) = aK E call fuel fin K (acode E call fuel a s) := rfl
theorem abr_false {a b : Code} : abr E call fuel fin K a b s (.v (.bool false)) = aK E call fuel fin K (acode E call fuel b s) := rfl
theorem cond_elim {q : R} {a b : Code} {c : Bool} (h : abr E call fuel fin K a b s (.v (.bool c)) = q) : (c = true ∧ aK E call fuel fin K (acode E call fuel a s) = q) ∨ (c = false ∧ aK E call fuel fin K (acode E call fuel b s) = q) := by
  cases c
  · exact .inr ⟨rfl, h⟩
  · exact .inl ⟨rfl, h⟩
theorem guardT_elim {q : R} {o : Oper} {c : Bool} (h : aK E call fuel fin K (aguard E call ops r o true tm df H (some (.v (.bool c)))) = q) :
    (c = true ∧ aK E call fuel fin K (astep E call ops r o.dst tm df (aop E (aval E tm) o H)) = q) ∨ (c = false ∧ aK E call fuel fin K (aops E call ops r ⟨putA tm o.dst (.v undef), df, H⟩) = q) := by
  cases c
  · exact .inr ⟨rfl, h⟩
  · exact .inl ⟨rfl, h⟩
theorem guardF_elim {q : R} {o : Oper} {c : Bool} (h : aK E call fuel fin K (aguard E call ops r o false tm df H (some (.v (.bool c)))) = q) :
    (c = true ∧ aK E call fuel fin K (aops E call ops r ⟨putA tm o.dst (.v undef), df, H⟩) = q) ∨ (c = false ∧ aK E call fuel fin K (astep E call ops r o.dst tm df (aop E (aval E tm) o H)) = q) := by
  cases c
  · exact .inr ⟨rfl, h⟩
  · exact .inl ⟨rfl, h⟩
/-- What a call gives hangs on a bool. -/
theorem aret_elim {q : R} {c : Bool} {x y : Option (AEnd × Heap)} (h : aK E call fuel fin K (aret E call ops r dst tm df (bif c then x else y)) = q) :
    (c = true ∧ aK E call fuel fin K (aret E call ops r dst tm df x) = q) ∨ (c = false ∧ aK E call fuel fin K (aret E call ops r dst tm df y) = q) := by
  cases c
  · exact .inr ⟨rfl, h⟩
  · exact .inl ⟨rfl, h⟩

theorem cond_iff {q : R} {a b : Code} {c : Bool} : (abr E call fuel fin K a b s (.v (.bool c)) = q) ↔ ((c = true ∧ aK E call fuel fin K (acode E call fuel a s) = q) ∨ (c = false ∧ aK E call fuel fin K (acode E call fuel b s) = q)) := by
  cases c <;> simp [abr_true, abr_false]
theorem guardT_iff {q : R} {o : Oper} {c : Bool} : (aK E call fuel fin K (aguard E call ops r o true tm df H (some (.v (.bool c)))) = q) ↔
    ((c = true ∧ aK E call fuel fin K (astep E call ops r o.dst tm df (aop E (aval E tm) o H)) = q) ∨ (c = false ∧ aK E call fuel fin K (aops E call ops r ⟨putA tm o.dst (.v undef), df, H⟩) = q)) := by
  cases c <;> simp [aguard_tt, aguard_tf]
theorem guardF_iff {q : R} {o : Oper} {c : Bool} : (aK E call fuel fin K (aguard E call ops r o false tm df H (some (.v (.bool c)))) = q) ↔
    ((c = true ∧ aK E call fuel fin K (aops E call ops r ⟨putA tm o.dst (.v undef), df, H⟩) = q) ∨ (c = false ∧ aK E call fuel fin K (astep E call ops r o.dst tm df (aop E (aval E tm) o H)) = q)) := by
  cases c <;> simp [aguard_ff, aguard_ft]
theorem aret_iff {q : R} {c : Bool} {x y : Option (AEnd × Heap)} : (aK E call fuel fin K (aret E call ops r dst tm df (bif c then x else y)) = q) ↔
    ((c = true ∧ aK E call fuel fin K (aret E call ops r dst tm df x) = q) ∨ (c = false ∧ aK E call fuel fin K (aret E call ops r dst tm df y) = q)) := by
  cases c <;> simp

theorem abody_K {fn : Func} {c : Code} {args : List AV} : abody E call fuel fn c args H = aK E call fuel (afin E call fuel fn) [] (acode E call fuel c (aframe E fn args H)) := abody_fin

def Gives (r : Option (AEnd × Heap)) (e : AEnd) : Prop := ∃ H', r = some (e, H')
theorem gives_some {e e' : AEnd} {H : Heap} : Gives (some (e', H)) e ↔ e' = e := by
  constructor
  · rintro ⟨H', h⟩; cases h; rfl
  · rintro rfl; exact ⟨H, rfl⟩
theorem ret_bool {x y : Bool} : (AEnd.ret (.v (.bool x)) = AEnd.ret (.v (.bool y))) ↔ x = y := by simp
theorem ret_int {k : IntKind} {x y : Int} : (AEnd.ret (.v (.int k x)) = AEnd.ret (.v (.int k y))) ↔ x = y := by simp
theorem ret_str {x y : ByteArray} : (AEnd.ret (.v (.string x)) = AEnd.ret (.v (.string y))) ↔ x = y := by simp
end
end Go.AI
end
section
set_option linter.all false
/-! Rules for regions whose order is drawn. -/
namespace Go.AI
open Go
section
variable {R : Type} {E : Env} {call : CallFn} {fuel : Nat} {ops : Array Oper} {r : List Oper} {dst : Option Tmp} {tm : List AV} {df : List (Fn × List AV × List AV)} {H H' : Heap} {s : St} {K : List AFr} {fin : Option (AExit × St) → R} {d q : R} {k : List AV → R}

open Classical in
noncomputable def kret (E : Env) (call : CallFn) (ops : Array Oper) (d : R) (H : Heap) (r : List Oper) (dst : Option Tmp) (tm : List AV) (k : List AV → R) : Option (AEnd × Heap) → R
  | some (.ret x, H2) => if H2 = H then kops E call ops d H r (putA tm dst x) k else d
  | _ => d
open Classical in
noncomputable def kstep (E : Env) (call : CallFn) (ops : Array Oper) (d : R) (H : Heap) (r : List Oper) (dst : Option Tmp) (tm : List AV) (k : List AV → R) : Option (ARes × Heap) → R
  | some (.val x, H') => if H' = H then kops E call ops d H r (putA tm dst x) k else d
  | some (.skip, H') => if H' = H then kops E call ops d H r (putA tm dst (.v undef)) k else d
  | some (.enter g args, H') => if H' = H then kret E call ops d H r dst tm k (call g args H) else d
  | _ => d
theorem kops_nil : kops E call ops d H [] tm k = k tm := rfl
theorem kstep_val {x : AV} : kstep E call ops d H r dst tm k (some (.val x, H)) = kops E call ops d H r (putA tm dst x) k := by simp [kstep]
theorem kstep_skip : kstep E call ops d H r dst tm k (some (.skip, H)) = kops E call ops d H r (putA tm dst (.v undef)) k := by simp [kstep]
theorem kstep_call {g : FuncId} {args : List AV} : kstep E call ops d H r dst tm k (some (.enter g args, H)) = kret E call ops d H r dst tm k (call g args H) := by simp [kstep]
theorem kret_ret {x : AV} : kret E call ops d H r dst tm k (some (.ret x, H)) = kops E call ops d H r (putA tm dst x) k := by simp [kret]
theorem kops_step {o : Oper} (h : awanted ops tm o = some true) : kops E call ops d H (o :: r) tm k = kstep E call ops d H r o.dst tm k (aop E (aval E tm) o H) := by
  conv => lhs; unfold kops
  rw [h]
  unfold kstep
  cases aop E (aval E tm) o H with
  | none => rfl
  | some p =>
    obtain ⟨a, H'⟩ := p
    cases a with
    | enter g args =>
      simp only
      split
      · rename_i hH
        subst hH
        unfold kret
        cases call g args H' with
        | none => rfl
        | some p =>
          obtain ⟨e, H2⟩ := p
          cases e <;> rfl
      · rfl
    | _ => rfl
theorem kops_plain {op : Op} {ty : TypeId} {pos : String} {after : Array Edge} :
    kops E call ops d H ({ dst := dst, op := op, type := ty, pos := pos, after := after, guard := none } :: r) tm k = kstep E call ops d H r dst tm k (aop E (aval E tm) { dst := dst, op := op, type := ty, pos := pos, after := after, guard := none } H) := kops_step rfl
noncomputable def kguard (E : Env) (call : CallFn) (ops : Array Oper) (d : R) (H : Heap) (r : List Oper) (o : Oper) (want : Bool) (tm : List AV) (k : List AV → R) : Option AV → R
  | some x => match wantBy want x with
    | none => d
    | some false => kops E call ops d H r (putA tm o.dst (.v undef)) k
    | some true => kstep E call ops d H r o.dst tm k (aop E (aval E tm) o H)
  | none => d
theorem kops_if {op : Op} {ty : TypeId} {pos : String} {after : Array Edge} {j : Nat} {want : Bool} :
    kops E call ops d H ({ dst := dst, op := op, type := ty, pos := pos, after := after, guard := some (j, want) } :: r) tm k =
      kguard E call ops d H r { dst := dst, op := op, type := ty, pos := pos, after := after, guard := some (j, want) } want tm k (gval tm (gslot ops j)) := by
  have hw : awanted ops tm { dst := dst, op := op, type := ty, pos := pos, after := after, guard := some (j, want) } = (gval tm (gslot ops j)).bind (wantBy want) := by
    unfold awanted gslot
    simp only
    cases (ops[j]?).bind (·.dst) with
    | none => rfl
    | some t =>
      simp only [gval]
      cases tm[t]? <;> rfl
  cases hx : gval tm (gslot ops j) with
  | none =>
    rw [hx] at hw
    conv => lhs; unfold kops
    rw [hw]; rfl
  | some x =>
    rw [hx] at hw
    simp only [Option.bind_some] at hw
    unfold kguard
    cases hb : wantBy want x with
    | none =>
      rw [hb] at hw
      conv => lhs; unfold kops
      rw [hw]
      simp [hb]
    | some b =>
      cases b with
      | false =>
        rw [hb] at hw
        conv => lhs; unfold kops
        rw [hw]
        simp [hb]
      | true =>
        rw [hb] at hw
        rw [kops_step hw]
        simp [hb]
theorem kguard_tt {o : Oper} : kguard E call ops d H r o true tm k (some (.v (.bool true))) = kstep E call ops d H r o.dst tm k (aop E (aval E tm) o H) := rfl
theorem kguard_ff {o : Oper} : kguard E call ops d H r o false tm k (some (.v (.bool false))) = kstep E call ops d H r o.dst tm k (aop E (aval E tm) o H) := rfl
theorem kguard_tf {o : Oper} : kguard E call ops d H r o true tm k (some (.v (.bool false))) = kops E call ops d H r (putA tm o.dst (.v undef)) k := rfl
theorem kguard_ft {o : Oper} : kguard E call ops d H r o false tm k (some (.v (.bool true))) = kops E call ops d H r (putA tm o.dst (.v undef)) k := rfl
theorem kguard_un {o : Oper} {want : Bool} : kguard E call ops d H r o want tm k (some (.v undef)) = kops E call ops d H r (putA tm o.dst (.v undef)) k := rfl
theorem kguardT_iff {o : Oper} {c : Bool} : (kguard E call ops d H r o true tm k (some (.v (.bool c))) = q) ↔
    ((c = true ∧ kstep E call ops d H r o.dst tm k (aop E (aval E tm) o H) = q) ∨ (c = false ∧ kops E call ops d H r (putA tm o.dst (.v undef)) k = q)) := by
  cases c <;> simp [kguard_tt, kguard_tf]
theorem kguardF_iff {o : Oper} {c : Bool} : (kguard E call ops d H r o false tm k (some (.v (.bool c))) = q) ↔
    ((c = true ∧ kops E call ops d H r (putA tm o.dst (.v undef)) k = q) ∨ (c = false ∧ kstep E call ops d H r o.dst tm k (aop E (aval E tm) o H) = q)) := by
  cases c <;> simp [kguard_ff, kguard_ft]
def koneR (d : R) (k : AV → Heap → R) : Option (AEnd × Heap) → R
  | some (.ret x, H') => k x H'
  | _ => d
def koneS (call : CallFn) (d : R) (k : AV → Heap → R) : Option (ARes × Heap) → R
  | some (.val x, H') => k x H'
  | some (.skip, H') => k (.v undef) H'
  | some (.enter g args, H1) => koneR d k (call g args H1)
  | _ => d
variable {k2 : AV → Heap → R}
theorem kone_plain {op : Op} {ty : TypeId} {pos : String} {after : Array Edge} :
    kone E call ops d { dst := dst, op := op, type := ty, pos := pos, after := after, guard := none } tm H k2 = koneS call d k2 (aop E (aval E tm) { dst := dst, op := op, type := ty, pos := pos, after := after, guard := none } H) := by
  unfold kone runOne
  have hw : awanted ops tm { dst := dst, op := op, type := ty, pos := pos, after := after, guard := none } = some true := rfl
  rw [if_pos hw]
  cases aop E (aval E tm) { dst := dst, op := op, type := ty, pos := pos, after := after, guard := none } H with
  | none => rfl
  | some p =>
    obtain ⟨a, H'⟩ := p
    cases a with
    | enter g args =>
      simp only [koneS, koneR]
      cases call g args H' with
      | none => rfl
      | some p =>
        obtain ⟨e, H2⟩ := p
        cases e <;> rfl
    | _ => rfl
theorem koneS_val {x : AV} : koneS call d k2 (some (.val x, H)) = k2 x H := rfl
theorem koneS_skip : koneS call d k2 (some (.skip, H)) = k2 (.v undef) H := rfl
theorem koneS_call {g : FuncId} {args : List AV} : koneS call d k2 (some (.enter g args, H)) = koneR d k2 (call g args H) := rfl
theorem koneR_ret {x : AV} : koneR d k2 (some (.ret x, H)) = k2 x H := rfl

theorem draw_mid_q (G : E.Good) (hr : ∀ y, E.same y y = true) (hrH : ∀ K, E.sameH K K = true) {i m : Nat} (D : DrawMid E ops i m) (id : Nat) (hq : aK E call fuel fin K (acode E call fuel (.region id ops true) ⟨tm, df, H⟩) = q) (hm : tm.length = m) :
    kops E call ops q H (ops.toList.take i) tm (fun tm1 => kone E call ops q (ops.toList.getD i default) tm1 H fun x H' =>
        kops E call ops q H' (ops.toList.drop (i + 1)) (putA tm1 (ops.toList.getD i default).dst x) fun tm2 => aK E call fuel fin K (some (.normal, ⟨tm2, df, H'⟩))) = q := by
  have := draw_mid (call := call) G hr hrH D (df := df) (H := H) hm (fun z => aK E call fuel fin K z)
  have he : aK E call fuel fin K (acode E call fuel (.region id ops true) ⟨tm, df, H⟩) = aK E call fuel fin K (adraw E call ops ⟨tm, df, H⟩) := rfl
  rw [he] at hq
  simp only [hq] at this
  exact this.symm
theorem draw_const_q (G : E.Good) (hr : ∀ y, E.same y y = true) (hrH : ∀ K, E.sameH K K = true) {m : Nat} (D : DrawConst ops m) (id : Nat) (hq : aK E call fuel fin K (acode E call fuel (.region id ops true) ⟨tm, df, H⟩) = q) (hm : tm.length = m) :
    kops E call ops q H ops.toList tm (fun tm1 => aK E call fuel fin K (some (.normal, ⟨tm1, df, H⟩))) = q := by
  have := draw_const (call := call) G hr hrH D (df := df) (H := H) hm (fun z => aK E call fuel fin K z)
  have he : aK E call fuel fin K (acode E call fuel (.region id ops true) ⟨tm, df, H⟩) = aK E call fuel fin K (adraw E call ops ⟨tm, df, H⟩) := rfl
  rw [he] at hq
  simp only [hq] at this
  exact this.symm
end
end Go.AI
end
section
/-! From a call's arguments, read as data, to abstract values; from the abstract run's end to what a row asks. -/
namespace Go.AI
open Go Go.ChangeShapes Go.WideShapes Go.RowKit

/-- Ahead of the call nothing is owned: all cells that are there stay. -/
def ghost0 (W : World) : Ghost := { loc := fun _ => none, aloc := fun _ _ => none, st := fun b o => W.cell? ⟨b, o, none⟩ }

theorem inv0 {E : Env} {W : World} (h : ∀ gl i x, (E.glob gl)[i]? = some x → ∃ u, W.cell? ⟨gl, i, none⟩ = some u ∧ Rel (ghost0 W) x u) : Inv E (ghost0 W) [] W where
  st := fun b o u e => e
  own := fun b o u id ob _ hid => by simp at hid
  objs := fun id ob hid => by simp at hid
  dis := fun i j o o' b hi => by simp at hi
  dom := fun id b h => by simp [ghost0] at h
  adom := fun id n p h => by simp [ghost0] at h
  amax := fun id e n fz cs h => by simp at h
  glob := h

theorem keeps {g g' : Ghost} {W W' : World} {H' : Heap} (S : Step g [] W g' H' W') : (∀ b, b < W.heap.size → W'.heap[b]? = W.heap[b]?) ∧ W'.os = W.os ∧ W'.output = W.output ∧ W.heap.size ≤ W'.heap.size :=
  ⟨fun b hb => (S.keep b hb fun id o h => by simp at h).1, S.os.1, S.os.2, S.size⟩

theorem keptBut_of {W W' : World} {may : MemPlace → Prop} (h : ∀ b, b < W.heap.size → W'.heap[b]? = W.heap[b]?) (h1 : W'.os = W.os) (h2 : W'.output = W.output) : W.keptBut W' may := by
  refine ⟨h1, h2, fun i hi => ?_⟩
  rw [h i hi]
  cases W.heap[i]? with
  | none => rfl
  | some o =>
    cases o with
    | cells c t fr => exact ⟨rfl, rfl, rfl, fun _ _ => rfl⟩
    | map es clock => exact .inr ⟨rfl, rfl⟩
    | _ => rfl

section
variable {H : Type} {enc : TypeId × Value → H} {P : Program}

theorem frozen_old {W W' : World} (h : ∀ b, b < W.heap.size → W'.heap[b]? = W.heap[b]?) {b off : Nat} (hb : b < W.heap.size) : W'.frozen? ⟨b, off, none⟩ = W.frozen? ⟨b, off, none⟩ := by
  unfold World.frozen?
  simp only [h b hb]

/-- The law's row: one bool, the arguments as they were. -/
theorem post_kept {f : Func} {s : ChangeSpec} {apart fresh handsOn again : Bool} {W W' : World} {args : Array Value} {v : Value} {ds gs : List (DataW H)} {before pa pv : List MemPlace}
    (hW : DataW.Whole enc P f.params.toList s.vars apart W args.toList ds gs before)
    (hres : ∀ (b : Nat) (sp : Nat → Bool) (hd : Bool), DataW.TrodAll enc P W' b sp hd f.resultTypes.toList (v.resultList f.resultTypes.size) (s.fn H (ds ++ gs)).results [])
    (hargs : ∀ sp : Nat → Bool, (∀ p ∈ before, sp p.block = true) → DataW.TrodAll enc P W' 0 sp true f.params.toList args.toList (s.fn H (ds ++ gs)).args pa)
    (hvars : ∀ sp : Nat → Bool, (∀ p ∈ before, sp p.block = true) → DataW.TrodVars enc P W' sp s.vars (s.fn H (ds ++ gs)).vars pv)
    (hps : before = pa ++ pv) (hk : W.keptBut W' (· ∈ before)) (hh : ∀ b, b < W.heap.size → W'.heap[b]? = W.heap[b]?)
    (hok : ∀ (j : Nat) (t : TypeId) (r : Value), f.resultTypes[j]? = some t → (v.resultList f.resultTypes.size)[j]? = some r → Value.okWide P W' .any 0 t r) :
    s.post enc P f apart fresh handsOn again W args v W' := by
  have hold : ∀ p ∈ before, (fun b => decide (b < W.heap.size)) p.block = true := fun p hp => by simpa using hW.lt p hp
  refine ⟨ds, gs, before, [], pa, pv, hW, hres _ _ _, hargs _ hold, hvars _ hold, World.keptBut_mono (fun p hp => ⟨hp, ?_⟩) hk, fun _ => ?_⟩
  · rw [hps, List.mem_append] at hp
    exact Or.inr hp
  · have hlt := hW.lt
    obtain ⟨_, _, _, _, _, hz, hn⟩ := hW
    refine ⟨hok, _, _, ([] ++ pa) ++ pv, ⟨[] ++ pa, pv, trodAll_append (hargs _ (fun _ _ => rfl)) (hres _ _ _), hvars _ (fun _ _ => rfl), rfl, ?_, ?_⟩, ?_⟩
    · intro b off hp
      have hp : MemPlace.cell b off ∈ before := by rw [hps]; simpa using hp
      rw [frozen_old (b := b) (off := off) hh (hlt _ hp)]
      exact hz b off hp
    · intro ha
      have := hn ha
      rw [hps] at this
      simpa using this
    · intro p hp _
      rw [hps]
      simpa using hp

/-- An argument reads behind the call as it did. -/
theorem trod_kept {t : TypeId} (hl : laidOutB P = true) (hr : P.readableRec t = true) (hrow : t < P.types.size) {W W' : World} {v : Value} {d : DataW H} {ps : List MemPlace}
    (h : DataW.Trod enc P W 0 (fun _ => true) true t v d ps) (hh : ∀ b, b < W.heap.size → W'.heap[b]? = W.heap[b]?) (hlt : ∀ x ∈ ps, x.block < W.heap.size) (sp : Nat → Bool) (hsp : ∀ x ∈ ps, sp x.block = true) :
    DataW.Trod enc P W' 0 sp true t v d ps := by
  refine WideElems.Trod_stays hl hr hrow h (fun x hx => ?_) (fun x hx => hsp x hx)
  have hb := hlt x hx
  cases x with
  | cell b o => exact World.cell?_of_block (w := W) (hh b hb)
  | map b => exact hh b hb
end
end Go.AI
end

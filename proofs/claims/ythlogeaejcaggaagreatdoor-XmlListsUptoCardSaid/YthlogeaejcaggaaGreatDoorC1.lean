/- A part of the proof: JxCard. -/
import Derived.Test.YthlogeaejcaggaaGreatDoorW1
set_option linter.all false
section
set_option linter.all false
set_option maxRecDepth 100000
namespace Go.AI.Jx
open Go Go.Proofs Go.Proofs.YthlogeaejcaggaaGreatDoor Go.ChangeShapes Go.WideShapes Go.ChangeAt Go.RowKit

theorem ownC : ownKnob Tryz.prog.godebug = none := by kernel_rfl
noncomputable def low : Nat := (World.holding Tryz.prog default ⟨#[], #[], []⟩).heap.size

/-- THE WITNESS's WORLD: the settled one, the listed variables holding what their initialisers lay. -/
noncomputable def laidWorld (os : Os) : World :=
  let w0 := World.holding Tryz.prog os ⟨#[.cells #[.string "value out of range".toUTF8] 184, .cells #[.string "invalid syntax".toUTF8] 184], #[], []⟩
  let put (h : Array Obj) (g : Nat) (cs : Array Value) : Array Obj := h.modify g fun
    | .cells _ t frozen => .cells cs t frozen
    | o => o
  let ints (k : IntKind) (l : List Int) : Array Value := (l.map fun z => Value.int k z).toArray
  let h := put w0.heap 0 (ints .u8 tabF)
  let h := put h 1 (arZ.flatMap fun z => [Value.int .u8 z.1, Value.int .u8 z.2]).toArray
  let h := put h 2 (ints .u64 tab10)
  let h := put h 4 #[.iface 182 (.pointer (some ⟨low + 1, 0, none⟩))]
  let h := put h 5 #[.iface 182 (.pointer (some ⟨low, 0, none⟩))]
  let h := put h 6 (ints .u8 tab32)
  let h := put h 7 (ints .u8 tab64)
  { w0 with heap := h }

noncomputable def zeroV : Value := .agg #[.int .i64 0, .bool false, .bool false, .string ⟨#[]⟩, .int .i64 0, .int .u64 0, .string ⟨#[]⟩, .slice none 0 0, .slice none 0 0]
def zeroD {H : Type} : DataW H := .agg [.lit (.int .i64 0), .lit (.bool false), .agg [.lit (.bool false), .lit (.string []), .lit (.int .i64 0)], .lit (.int .u64 0), .lit (.string []), .nil, .nil]

theorem laid_met (os : Os) (args : Array Value) : laidMet Tryz.prog theLaid ((laidWorld os).forCall (fun _ _ => 0) ⟨#[], args, []⟩).memory :=
  laidMet_of_run' 8 (by kernel_rfl) (by kernel_rfl)

theorem witness2 (f : FuncId) (fn : Func) (s : OpenSpec) (hf : Tryz.prog.funcs[f]? = some fn) : True := trivial

section
variable {H : Type} (enc : TypeId × Value → H)
theorem witness_row7 (os : Os) : (Rows.OpenSpec.upto Rows.xmlListsSpec).preRow enc Tryz.prog Tryz.f7 Rows.xmlListsUptoRow.domain false Rows.xmlListsUptoRow.laid ((laidWorld os).forCall (fun _ _ => 0) ⟨#[], #[zeroV, zeroV], []⟩).memory #[zeroV, zeroV] := by
  have hw : (DataW.whole enc Tryz.prog ((laidWorld os).forCall (fun _ _ => 0) ⟨#[], #[zeroV, zeroV], []⟩).memory Tryz.f7.params.toList Rows.xmlListsSpec.vars false #[zeroV, zeroV].toList 8).map (fun x => (x.1, x.2.1)) =
      some ([zeroD, zeroD], []) := by kernel_rfl
  obtain ⟨⟨x1, x2, x3⟩, hx, hx1⟩ := Option.map_eq_some_iff.1 hw
  simp only [Prod.mk.injEq] at hx1
  obtain ⟨rfl, rfl⟩ := hx1
  exact OpenSpec.preRow_of_cond 8 hx (by kernel_rfl) (fun k hk => by cases hk; kernel_rfl) (by kernel_rfl) (laid_met os _)
end

theorem lifted7 (h : Law2 7) (os : Os) (started : os.Started) (H : Type) (enc : TypeId × Value → H) (F : Stop.Interp) :
    ReturnsInHanded {} Tryz.checked os 7 .any ((Rows.OpenSpec.upto Rows.xmlListsSpec).preRow enc Tryz.prog Tryz.f7 Rows.xmlListsUptoRow.domain false Rows.xmlListsUptoRow.laid) (((Rows.OpenSpec.upto Rows.xmlListsSpec).at F).post enc Tryz.prog Tryz.f7 false true false false) := by
  refine returnsInHanded_of_row (C := Tryz.checked) (s := Rows.OpenSpec.upto Rows.xmlListsSpec) ownC started (by kernel_rfl) Tryz.func7
    (witness_row_atRef (enc := enc) (C := Tryz.checked) false (laidWorld os) #[zeroV, zeroV] rfl (by kernel_rfl) (by kernel_rfl) (by kernel_rfl) (witness_row7 enc os)) ?_
  intro W base args ds gs before hval hW _ hk _ hL _ _
  exact contract2 (fn := Tryz.f7) rfl rfl h (s := Rows.xmlListsSpec) (fun _ _ _ => rfl) rfl H enc W base args ds gs before hval hW hL (hk _ rfl)

theorem said7 (h : Law2 7) : Rows.XmlListsUptoSaid :=
  OpenClaim.holds_of_cond 7 Tryz.f7 rfl rfl rfl rfl rfl rfl rfl ⟨rfl, rfl, rfl, rfl, rfl⟩ rfl rfl rfl rfl rfl (by kernel_rfl) Tryz.func7 (by kernel_rfl)
    (of_decide_eq_true (by kernel_rfl)) (by unfold Func.isWrapper; first | (rw [if_pos (by decide +kernel)]; kernel_rfl) | (rw [if_neg (by decide +kernel)]; exact ⟨rfl, rfl⟩))
    (fun os started H enc _ F => by rw [OpenClaim.pre_eq_preRow]; exact lifted7 h os started H enc F)

theorem plain7 (f : FuncId) (fn : Func) (hf : Tryz.pinned.checked.prog.funcNamed "calamus/calamuslaw10.XmlLists" = some f) (hfn : Tryz.pinned.checked.prog.funcs[f]? = some fn) :
    true = Tryz.pinned.checked.prog.looks [] ∧ ∀ (j : Nat) t, fn.params[j]? = some t → Tryz.pinned.checked.prog.wantsStandIn t = false := by
  obtain rfl : f = 7 := Option.some.inj ((show Tryz.prog.funcNamed "calamus/calamuslaw10.XmlLists" = some 7 by kernel_rfl).symm.trans hf) |>.symm
  obtain rfl : fn = Tryz.f7 := (Option.some.inj (Tryz.func7.symm.trans hfn)).symm
  refine ⟨by kernel_rfl, fun j t ht => ?_⟩
  rw [Tryz.params7] at ht
  obtain rfl : t = 29 := by simpa using Array.mem_of_getElem? ht
  exact (show Tryz.prog.wantsStandIn 29 = false by kernel_rfl)

theorem card7 (h : Law2 7) : Rows.XmlListsUptoCardSaid :=
  Claim7.holds_tied_plain_at .later [] _ _ _ _ (said7 h) (fun _ h => by cases h) (by kernel_rfl) (fun _ h => by cases h) xmlListsUpto_row_tie rfl ⟨rfl, rfl⟩ (by kernel_rfl) rfl plain7 (by kernel_rfl)
end Go.AI.Jx
end

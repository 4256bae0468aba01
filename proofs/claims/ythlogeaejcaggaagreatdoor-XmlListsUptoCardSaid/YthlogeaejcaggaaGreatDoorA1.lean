/- A part of the proof: the abstract run of the model's code, and that each of its operations stands for the model's. -/
import Derived.Maps.AppendAt
import Derived.Lib.FrozenHead
import Derived.Laws.Entries
import Derived.Laws.CopyRow
import Derived.Laws.Slices
import Derived.Laws.BytesString
import Derived.Laws.IdiomStrings
import Derived.MapKept
import Derived.Laws.BitsLemmas
import Derived.Lib.AppendStr
import Derived.Lib.UnsafeStr
import Derived.Test.YthlogeaejcaggaaGreatDoorA0
set_option linter.all false
section
/-! What an abstract value stands for, in a world; what is kept. -/
namespace Go.AI
open Go

/-- Where the abstract heap's objects lie; which cells stay as they are. -/
structure Ghost where
  loc : Nat → Option Nat
  aloc : Nat → Nat → Option (Nat × Nat)
  st : Nat → Nat → Option Value

structure Ghost.Le (g g' : Ghost) : Prop where
  loc : ∀ i b, g.loc i = some b → g'.loc i = some b
  aloc : ∀ i n b, g.aloc i n = some b → g'.aloc i n = some b
  st : ∀ b o u, g.st b o = some u → g'.st b o = some u

theorem Ghost.Le.refl (g : Ghost) : g.Le g := ⟨fun _ _ h => h, fun _ _ _ h => h, fun _ _ _ h => h⟩
theorem Ghost.Le.trans {a b c : Ghost} (h : a.Le b) (k : b.Le c) : a.Le c :=
  ⟨fun i x e => k.loc i x (h.loc i x e), fun i n x e => k.aloc i n x (h.aloc i n x e), fun i n x e => k.st i n x (h.st i n x e)⟩

inductive Rel (g : Ghost) : AV → Value → Prop
  | top (u : Value) : Rel g .top u
  | v (u : Value) : Rel g (.v u) u
  | ptr {id b : Nat} (off : Nat) (h : g.loc id = some b) : Rel g (.ptr id off) (.pointer (some ⟨b, off, none⟩))
  | sl {n cap : Nat} {cells : List AV} {us : List Value} {a : Option Addr} {b o : Nat} (hn : n ≤ cap) (hl : cells.length = us.length)
      (hr : ∀ (i : Nat) (x : AV) (u : Value), cells[i]? = some x → us[i]? = some u → Rel g x u) (ha : cells ≠ [] → a = some ⟨b, o, none⟩)
      (hst : ∀ (i : Nat) (u : Value), us[i]? = some u → g.st b (o + i) = some u) : Rel g (.sl n cells) (.slice a n cap)
  | asl {id n b cap : Nat} (h : g.aloc id n = some (b, cap)) : Rel g (.asl id n) (.slice (some ⟨b, 0, none⟩) n cap)
  | bsl {id b n cap : Nat} (off : Nat) (h : g.loc id = some b) (hn : n ≤ cap) : Rel g (.bsl id off n) (.slice (some ⟨b, off, none⟩) n cap)
  | ap {id n b cap : Nat} (off : Nat) (h : g.aloc id n = some (b, cap)) : Rel g (.ap id n off) (.pointer (some ⟨b, off, none⟩))
  | ep {cells : List AV} {us : List Value} {b o : Nat} (hl : cells.length = us.length)
      (hr : ∀ (i : Nat) (x : AV) (u : Value), cells[i]? = some x → us[i]? = some u → Rel g x u)
      (hst : ∀ (i : Nat) (u : Value), us[i]? = some u → g.st b (o + i) = some u) : Rel g (.ep cells) (.pointer (some ⟨b, o, none⟩))
  | fn {f : Fn} {x1 x2 : List AV} {u1 u2 : List Value} (h1 : x1.length = u1.length) (h2 : x2.length = u2.length)
      (r1 : ∀ (i : Nat) (x : AV) (u : Value), x1[i]? = some x → u1[i]? = some u → Rel g x u) (r2 : ∀ (i : Nat) (x : AV) (u : Value), x2[i]? = some x → u2[i]? = some u → Rel g x u) :
      Rel g (.fn f x1 x2) (.func f u1.toArray u2.toArray)
  | ifc {t : TypeId} {x : AV} {u : Value} (h : Rel g x u) : Rel g (.ifc t x) (.iface t u)
  | mp {id b : Nat} (h : g.loc id = some b) : Rel g (.mp id) (.map (some b))
  | agg {cells : List AV} {us : List Value} (hl : cells.length = us.length) (hr : ∀ (i : Nat) (x : AV) (u : Value), cells[i]? = some x → us[i]? = some u → Rel g x u) :
      Rel g (.agg cells) (.agg us.toArray)
  | tup {cells : List AV} {us : List Value} (hl : cells.length = us.length) (hr : ∀ (i : Nat) (x : AV) (u : Value), cells[i]? = some x → us[i]? = some u → Rel g x u) :
      Rel g (.tup cells) (.tuple us.toArray)

def RelL (g : Ghost) (xs : List AV) (us : List Value) : Prop := xs.length = us.length ∧ ∀ (i : Nat) (x : AV) (u : Value), xs[i]? = some x → us[i]? = some u → Rel g x u

theorem Rel.mono {g g' : Ghost} (h : g.Le g') {x : AV} {u : Value} (r : Rel g x u) : Rel g' x u := by
  induction r with
  | top u => exact .top u
  | v u => exact .v u
  | ptr off e => exact .ptr off (h.loc _ _ e)
  | sl hn hl _ ha hst ih => exact .sl hn hl ih ha fun i u e => h.st _ _ _ (hst i u e)
  | asl e => exact .asl (h.aloc _ _ _ e)
  | bsl off e hn => exact .bsl off (h.loc _ _ e) hn
  | ap off e => exact .ap off (h.aloc _ _ _ e)
  | ep hl _ hst ih => exact .ep hl ih fun i u e => h.st _ _ _ (hst i u e)
  | fn h1 h2 _ _ i1 i2 => exact .fn h1 h2 i1 i2
  | ifc _ ih => exact .ifc ih
  | mp e => exact .mp (h.loc _ _ e)
  | agg hl _ ih => exact .agg hl ih
  | tup hl _ ih => exact .tup hl ih

theorem RelL.mono {g g' : Ghost} (h : g.Le g') {xs : List AV} {us : List Value} (r : RelL g xs us) : RelL g' xs us :=
  ⟨r.1, fun i x u e e' => (r.2 i x u e e').mono h⟩
theorem RelL.nil (g : Ghost) : RelL g [] [] := ⟨rfl, fun i x u e => by simp at e⟩
theorem RelL.cons {g : Ghost} {x : AV} {u : Value} {xs : List AV} {us : List Value} (h : Rel g x u) (r : RelL g xs us) : RelL g (x :: xs) (u :: us) :=
  ⟨by simp [r.1], fun i y w e e' => by
    cases i with
    | zero => simp only [List.getElem?_cons_zero, Option.some.injEq] at e e'; subst e; subst e'; exact h
    | succ i => exact r.2 i y w (by simpa using e) (by simpa using e')⟩
theorem RelL.head {g : Ghost} {x : AV} {u : Value} {xs : List AV} {us : List Value} (r : RelL g (x :: xs) (u :: us)) : Rel g x u := r.2 0 x u rfl rfl
theorem RelL.tail {g : Ghost} {x : AV} {u : Value} {xs : List AV} {us : List Value} (r : RelL g (x :: xs) (u :: us)) : RelL g xs us :=
  ⟨by simpa using r.1, fun i y w e e' => r.2 (i + 1) y w (by simpa using e) (by simpa using e')⟩
theorem RelL.cases {g : Ghost} {x : AV} {xs : List AV} {us : List Value} (r : RelL g (x :: xs) us) : ∃ u us', us = u :: us' ∧ Rel g x u ∧ RelL g xs us' := by
  cases us with
  | nil => have := r.1; simp at this
  | cons u us => exact ⟨u, us, rfl, r.head, r.tail⟩
theorem RelL.nil_of {g : Ghost} {us : List Value} (r : RelL g [] us) : us = [] := by
  have := r.1; simpa using this.symm
theorem RelL.append {g : Ghost} {xs ys : List AV} {us ws : List Value} (h : RelL g xs us) (k : RelL g ys ws) : RelL g (xs ++ ys) (us ++ ws) := by
  induction xs generalizing us with
  | nil => rw [h.nil_of]; exact k
  | cons x xs ih =>
    obtain ⟨u, us', rfl, h1, h2⟩ := h.cases
    exact .cons h1 (ih h2)
theorem RelL.take {g : Ghost} {xs : List AV} {us : List Value} (h : RelL g xs us) (n : Nat) : RelL g (xs.take n) (us.take n) := by
  refine ⟨by simp [h.1], fun i x u e e' => ?_⟩
  rw [List.getElem?_take] at e e'
  split at e
  · rename_i hi; rw [if_pos hi] at e'; exact h.2 i x u e e'
  · cases e
theorem RelL.drop {g : Ghost} {xs : List AV} {us : List Value} (h : RelL g xs us) (n : Nat) : RelL g (xs.drop n) (us.drop n) := by
  refine ⟨by simp [h.1], fun i x u e e' => ?_⟩
  rw [List.getElem?_drop] at e e'
  exact h.2 _ x u e e'
theorem RelL.getD {g : Ghost} {xs : List AV} {us : List Value} (h : RelL g xs us) (i : Nat) (d : Value) : Rel g (xs.getD i (.v d)) (us.getD i d) := by
  rw [List.getD_eq_getElem?_getD, List.getD_eq_getElem?_getD]
  rcases Nat.lt_or_ge i xs.length with hi | hi
  · have hi' : i < us.length := by rw [← h.1]; exact hi
    rw [List.getElem?_eq_getElem hi, List.getElem?_eq_getElem hi']
    exact h.2 i _ _ (List.getElem?_eq_getElem hi) (List.getElem?_eq_getElem hi')
  · have hi' : us.length ≤ i := by rw [← h.1]; exact hi
    rw [List.getElem?_eq_none hi, List.getElem?_eq_none hi']
    exact .v d
theorem RelL.get {g : Ghost} {xs : List AV} {us : List Value} (h : RelL g xs us) {i : Nat} {x : AV} (e : xs[i]? = some x) : ∃ u, us[i]? = some u ∧ Rel g x u := by
  have hi : i < xs.length := (List.getElem?_eq_some_iff.1 e).1
  have hi' : i < us.length := by rw [← h.1]; exact hi
  exact ⟨us[i], List.getElem?_eq_getElem hi', h.2 i _ _ e (List.getElem?_eq_getElem hi')⟩
theorem RelL.set {g : Ghost} {xs : List AV} {us : List Value} (h : RelL g xs us) (i : Nat) {x : AV} {u : Value} (r : Rel g x u) : RelL g (xs.set i x) (us.set i u) := by
  refine ⟨by simp [h.1], fun j y w e e' => ?_⟩
  by_cases hij : i = j
  · subst hij
    have hi : i < xs.length := by have := (List.getElem?_eq_some_iff.1 e).1; simpa using this
    have hi' : i < us.length := by rw [← h.1]; exact hi
    rw [List.getElem?_set_self hi] at e
    rw [List.getElem?_set_self hi'] at e'
    cases e; cases e'; exact r
  · rw [List.getElem?_set_ne hij] at e e'
    exact h.2 j y w e e'
theorem RelL.map_v (g : Ghost) (us : List Value) : RelL g (us.map .v) us := by
  refine ⟨by simp, fun i x u e e' => ?_⟩
  rw [List.getElem?_map, e'] at e
  cases e; exact .v u
theorem RelL.replicate {g : Ghost} {x : AV} {u : Value} (h : Rel g x u) (n : Nat) : RelL g (List.replicate n x) (List.replicate n u) := by
  induction n with
  | zero => exact .nil g
  | succ n ih => exact .cons h ih

/-! ### Known values -/
theorem un1_rel {g : Ghost} {x : AV} {y u : Value} (h : un1 x = some y) (r : Rel g x u) : u = y := by
  unfold un1 at h
  split at h
  · cases h; cases r; rfl
  · cases h
    cases r with
    | ifc r' => cases r'; rfl
  · cases h
theorem unL_rel {g : Ghost} : ∀ {xs : List AV} {ys us : List Value}, unL xs = some ys → RelL g xs us → us = ys
  | [], ys, us, h, r => by simp only [unL, Option.some.injEq] at h; subst h; exact r.nil_of
  | x :: xs, ys, us, h, r => by
    obtain ⟨u, us', rfl, r1, r2⟩ := r.cases
    unfold unL at h
    split at h
    · rename_i y ys' h1 h2
      cases h
      rw [un1_rel h1 r1, unL_rel h2 r2]
    · cases h
theorem un_rel {g : Ghost} {x : AV} {y u : Value} (h : x.un = some y) (r : Rel g x u) : u = y := by
  unfold AV.un at h
  split at h
  · cases h; cases r; rfl
  · cases r with
    | agg hl hr =>
      obtain ⟨l, h1, rfl⟩ := Option.map_eq_some_iff.1 h
      rw [unL_rel h1 ⟨hl, hr⟩]
  · split at h
    · cases h
      cases r with
      | ifc r' => cases r'; rfl
    · obtain ⟨l, h1, rfl⟩ := Option.map_eq_some_iff.1 h
      cases r with
      | ifc r' =>
        cases r' with
        | agg hl hr => rw [unL_rel h1 ⟨hl, hr⟩]
    · cases h
  · cases h

theorem conv1_rel (g : Ghost) (x : Value) : Rel g (conv1 x) x := by
  unfold conv1
  split
  · split
    · rename_i t cs
      refine .ifc ?_
      have := Rel.agg (g := g) (cells := cs.toList.map .v) (us := cs.toList) (by simp) (RelL.map_v g _).2
      simpa using this
    · exact .ifc (.v _)
  · exact .v _
theorem RelL.map_conv (g : Ghost) (f : Value → AV) (hf : ∀ x, Rel g (f x) x) (us : List Value) : RelL g (us.map f) us := by
  refine ⟨by simp, fun i x u e e' => ?_⟩
  rw [List.getElem?_map, e'] at e
  cases e; exact hf u
theorem convA_rel (g : Ghost) (x : Value) : Rel g (convA x) x := by
  unfold convA
  split
  · rename_i cs
    have := Rel.agg (g := g) (cells := cs.toList.map conv1) (us := cs.toList) (by simp) (RelL.map_conv g _ (conv1_rel g) _).2
    simpa using this
  · exact conv1_rel g x
theorem conv_rel (g : Ghost) (x : Value) : Rel g (conv x) x := by
  unfold conv
  split
  · rename_i cs
    have := Rel.tup (g := g) (cells := cs.toList.map convA) (us := cs.toList) (by simp) (RelL.map_conv g _ (convA_rel g) _).2
    simpa using this
  · exact convA_rel g x
theorem cells_rel {g : Ghost} {x : AV} {cs : List AV} {u : Value} (h : x.cells? = some cs) (r : Rel g x u) : RelL g cs u.cells.toList := by
  unfold AV.cells? at h
  split at h
  · cases h
  · cases h
    cases r with
    | agg hl hr => exact ⟨by simpa [Value.cells] using hl, by simpa [Value.cells] using hr⟩
  · rename_i us
    cases h
    cases r
    have := RelL.map_v g us.toList
    simpa [Value.cells] using this
  · rename_i h1 h2 h3
    cases h
    have key : u.cells = #[u] := by
      cases r with
      | agg hl hr => exact (h2 _ rfl).elim
      | top => exact (h1 rfl).elim
      | v u =>
        cases u with
        | agg cs => exact (h3 cs rfl).elim
        | _ => rfl
      | _ => rfl
    rw [key]
    exact .cons r (.nil g)

end Go.AI
end
section
/-! The abstract heap and the world. -/
namespace Go.AI
open Go

/-- The block of an object. -/
def blk (g : Ghost) (id : Nat) : AObj → Option Nat
  | .box _ _ => g.loc id
  | .map _ => g.loc id
  | .arr _ n _ _ => (g.aloc id n).map (·.1)
  | .dead => none

def MapRel (g : Ghost) (es : List (Value × AV)) (ents : List MapEntry) : Prop :=
  es.length = ents.length ∧ ∀ (i : Nat) (k : Value) (x : AV) (m : MapEntry), es[i]? = some (k, x) → ents[i]? = some m → m.key = k ∧ Rel g x m.val

def ObjOk (E : Env) (g : Ghost) (w : World) (id : Nat) : AObj → Prop
  | .box t cs => ∃ b us, g.loc id = some b ∧ w.heap[b]? = some (.cells us t (0, 0)) ∧ RelL g cs us.toList
  | .arr e n fz cs => ∃ b cap us i cur fr, g.aloc id n = some (b, cap) ∧ E.P.info? e = some i ∧ w.heap[b]? = some (.cells cur e fr) ∧ (fz = false → fr = (0, 0)) ∧
      cur.toList.take (n * i.size) = us ∧ us.length = n * i.size ∧ n ≤ cap ∧ cap ≤ maxLen ∧ cur.size = cap * i.size ∧ RelL g cs us
  | .map es => ∃ b ents clock, g.loc id = some b ∧ w.heap[b]? = some (.map ents clock) ∧ MapRel g es ents.toList
  | .dead => True

structure Inv (E : Env) (g : Ghost) (H : Heap) (w : World) : Prop where
  st : ∀ b o u, g.st b o = some u → w.cell? ⟨b, o, none⟩ = some u
  own : ∀ b o u id ob, g.st b o = some u → H[id]? = some ob → blk g id ob ≠ some b
  objs : ∀ id ob, H[id]? = some ob → ObjOk E g w id ob
  dis : ∀ i j o o' b, H[i]? = some o → H[j]? = some o' → blk g i o = some b → blk g j o' = some b → i = j
  dom : ∀ id b, g.loc id = some b → id < H.length ∧ b < w.heap.size
  adom : ∀ id n p, g.aloc id n = some p → id < H.length ∧ p.1 < w.heap.size
  amax : ∀ id e n fz cs, H[id]? = some (.arr e n fz cs) → ∀ k p, g.aloc id k = some p → k ≤ n
  glob : ∀ gl i x, (E.glob gl)[i]? = some x → ∃ u, g.st gl i = some u ∧ Rel g x u

structure Step (g : Ghost) (H : Heap) (w : World) (g' : Ghost) (H' : Heap) (w' : World) : Prop where
  le : g.Le g'
  size : w.heap.size ≤ w'.heap.size
  keep : ∀ b, b < w.heap.size → (∀ id o, H[id]? = some o → blk g id o ≠ some b) → w'.heap[b]? = w.heap[b]? ∧ ∀ id o, H'[id]? = some o → blk g' id o ≠ some b
  len : H.length ≤ H'.length
  fresh : ∀ b o u, g'.st b o = some u → g.st b o = some u ∨ w.heap.size ≤ b
  os : w'.os = w.os ∧ w'.output = w.output

theorem Step.refl (g : Ghost) (H : Heap) (w : World) : Step g H w g H w := ⟨.refl g, Nat.le_refl _, fun _ _ h => ⟨rfl, h⟩, Nat.le_refl _, fun _ _ _ h => .inl h, ⟨rfl, rfl⟩⟩
theorem Step.trans {g1 g2 g3 : Ghost} {H1 H2 H3 : Heap} {w1 w2 w3 : World} (h : Step g1 H1 w1 g2 H2 w2) (k : Step g2 H2 w2 g3 H3 w3) : Step g1 H1 w1 g3 H3 w3 :=
  ⟨h.le.trans k.le, Nat.le_trans h.size k.size, fun b hb hn => by
    obtain ⟨e1, n1⟩ := h.keep b hb hn
    obtain ⟨e2, n2⟩ := k.keep b (Nat.lt_of_lt_of_le hb h.size) n1
    exact ⟨e2.trans e1, n2⟩, Nat.le_trans h.len k.len, fun b o u e => by
    rcases k.fresh b o u e with e | e
    · exact h.fresh b o u e
    · exact .inr (Nat.le_trans h.size e), ⟨k.os.1.trans h.os.1, k.os.2.trans h.os.2⟩⟩

theorem lt_of_heap {w : World} {b : Nat} {o : Obj} (h : w.heap[b]? = some o) : b < w.heap.size := (Array.getElem?_eq_some_iff.1 h).1
theorem cell_lt {w : World} {b o : Nat} {u : Value} (h : w.cell? ⟨b, o, none⟩ = some u) : b < w.heap.size := by
  unfold World.cell? at h
  cases e : w.heap[b]? with
  | none => simp [e] at h
  | some x => exact lt_of_heap e
theorem cell_congr {w w' : World} {b o : Nat} (h : w'.heap[b]? = w.heap[b]?) : w'.cell? ⟨b, o, none⟩ = w.cell? ⟨b, o, none⟩ := by
  simp [World.cell?, h]
theorem ownsRowF_congr {w w' : World} {base : Nat} {e : TypeId} {size n : Nat} {v : Value} {xs : List Value} (h : w.ownsRowF base e size v n xs) (hm : ∀ k, v.ownBlock = some k → w'.heap[k]? = w.heap[k]?) : w'.ownsRowF base e size v n xs := by
  obtain ⟨h1, h2⟩ := h
  refine ⟨h1, ?_⟩
  rcases h2 with h2 | ⟨g, cap, cur, fz, rfl, hg, hh, r⟩
  · exact .inl h2
  · exact .inr ⟨g, cap, cur, fz, rfl, hg, (hm g (by simp [Value.ownBlock])).trans hh, r⟩
theorem ownsRow_congr {w w' : World} {base : Nat} {e : TypeId} {size n : Nat} {v : Value} {xs : List Value} (h : w.ownsRow base e size v n xs) (hm : ∀ k, v.ownBlock = some k → w'.heap[k]? = w.heap[k]?) : w'.ownsRow base e size v n xs := by
  obtain ⟨h1, h2⟩ := h
  refine ⟨h1, ?_⟩
  rcases h2 with h2 | ⟨g, cap, cur, rfl, hg, hh, r⟩
  · exact .inl h2
  · exact .inr ⟨g, cap, cur, rfl, hg, (hm g (by simp [Value.ownBlock])).trans hh, r⟩

theorem MapRel.mono {g g' : Ghost} (h : g.Le g') {es : List (Value × AV)} {ents : List MapEntry} (r : MapRel g es ents) : MapRel g' es ents :=
  ⟨r.1, fun i k x m e e' => ⟨(r.2 i k x m e e').1, (r.2 i k x m e e').2.mono h⟩⟩

theorem ObjOk.move {E : Env} {g g' : Ghost} {w w' : World} {j : Nat} {o : AObj} (h : ObjOk E g w j o) (le : g.Le g') (hb : ∀ b, blk g j o = some b → w'.heap[b]? = w.heap[b]?) : ObjOk E g' w' j o := by
  cases o with
  | box t cs =>
    obtain ⟨b, us, h1, h2, h3⟩ := h
    exact ⟨b, us, le.loc _ _ h1, (hb b h1).trans h2, h3.mono le⟩
  | arr e n fz cs =>
    obtain ⟨b, cap, us, i, cur, fr, h1, h2, h3, h4, h5, h6, h7, h8, h9, h10⟩ := h
    exact ⟨b, cap, us, i, cur, fr, le.aloc _ _ _ h1, h2, (hb b (by simp [blk, h1])).trans h3, h4, h5, h6, h7, h8, h9, h10.mono le⟩
  | map es =>
    obtain ⟨b, ents, clock, h1, h2, h3⟩ := h
    exact ⟨b, ents, clock, le.loc _ _ h1, (hb b h1).trans h2, h3.mono le⟩
  | dead => trivial

theorem blk_le {E : Env} {g g' : Ghost} {w : World} {j : Nat} {o : AObj} (h : ObjOk E g w j o) (le : g.Le g') : blk g' j o = blk g j o := by
  cases o with
  | box t cs =>
    obtain ⟨b, us, h1, h2, h3⟩ := h
    simp [blk, h1, le.loc _ _ h1]
  | arr e n fz cs =>
    obtain ⟨b, cap, us, i, cur, fr, h1, h2, h3, h4, h5, h6, h7, h8, h9, h10⟩ := h
    simp [blk, h1, le.aloc _ _ _ h1]
  | map es =>
    obtain ⟨b, ents, clock, h1, h2, h3⟩ := h
    simp [blk, h1, le.loc _ _ h1]
  | dead => rfl

theorem blk_lt {E : Env} {g : Ghost} {H : Heap} {w : World} (I : Inv E g H w) {j : Nat} {o : AObj} {b : Nat} (h : blk g j o = some b) : b < w.heap.size := by
  cases o with
  | box t cs => exact (I.dom _ _ h).2
  | arr e n fz cs =>
    obtain ⟨p, hp, rfl⟩ := Option.map_eq_some_iff.1 h
    exact (I.adom _ _ _ hp).2
  | map es => exact (I.dom _ _ h).2
  | dead => cases h

def setAt (H : Heap) (id : Nat) (ob : AObj) : Heap := if id < H.length then H.set id ob else H ++ [ob]
theorem setAt_get {H : Heap} {id : Nat} {ob : AObj} (hid : id ≤ H.length) (j : Nat) : (setAt H id ob)[j]? = if j = id then some ob else H[j]? := by
  unfold setAt
  split
  · rename_i h
    rw [List.getElem?_set]
    by_cases e : id = j
    · subst e; simp [h]
    · rw [if_neg e, if_neg (fun e' => e e'.symm)]
  · have he : id = H.length := by omega
    subst he
    by_cases e : j = H.length
    · subst e; simp
    · rw [if_neg e]
      rcases Nat.lt_or_ge j H.length with hj | hj
      · rw [List.getElem?_append_left hj]
      · rw [List.getElem?_eq_none hj, List.getElem?_eq_none (by simp; omega)]
theorem setAt_length {H : Heap} {id : Nat} {ob : AObj} (hid : id ≤ H.length) : H.length ≤ (setAt H id ob).length ∧ id < (setAt H id ob).length := by
  unfold setAt
  split
  · rename_i h; simp [h]
  · simp; omega

/-- One object is turned, or a new one is laid; its old block alone has been written; new cells may be known to stay. -/
theorem Inv.turn {E : Env} {g : Ghost} {H : Heap} {w : World} (I : Inv E g H w) {g' : Ghost} {w' : World} (id : Nat) (ob : AObj) (hid : id ≤ H.length)
    (le : g.Le g') (hsz : w.heap.size ≤ w'.heap.size)
    (hk : ∀ b, b < w.heap.size → (∀ o, H[id]? = some o → blk g id o ≠ some b) → w'.heap[b]? = w.heap[b]?)
    (hok : ObjOk E g' w' id ob)
    (hb : ∀ b, blk g' id ob = some b → w.heap.size ≤ b ∨ ∃ o, H[id]? = some o ∧ blk g id o = some b)
    (hst : ∀ b o u, g'.st b o = some u → g.st b o = some u ∨ (w.heap.size ≤ b ∧ blk g' id ob ≠ some b ∧ w'.cell? ⟨b, o, none⟩ = some u))
    (hloc : ∀ j b, g'.loc j = some b → g.loc j = some b ∨ (j = id ∧ b < w'.heap.size))
    (haloc : ∀ j n p, g'.aloc j n = some p → g.aloc j n = some p ∨ (j = id ∧ p.1 < w'.heap.size))
    (ham : ∀ e n fz cs, ob = .arr e n fz cs → ∀ k p, g'.aloc id k = some p → k ≤ n := by intro _ _ _ _ h; cases h)
    (hos : w'.os = w.os ∧ w'.output = w.output := by first | exact ⟨rfl, rfl⟩ | (simp [*]; done)) :
    Inv E g' (setAt H id ob) w' ∧ Step g H w g' (setAt H id ob) w' := by
  have stlt : ∀ {b o u}, g.st b o = some u → b < w.heap.size := fun h => cell_lt (I.st _ _ _ h)
  have len := setAt_length (ob := ob) hid
  refine ⟨⟨?_, ?_, ?_, ?_, ?_, ?_, ?_, ?_⟩, le, hsz, ?_, len.1, fun b o u e => (hst b o u e).imp (fun e => e) fun e => e.1, hos⟩
  · intro b o u h
    rcases hst b o u h with h | h
    · rw [cell_congr (hk b (stlt h) fun o' ho' => I.own _ _ _ _ _ h ho')]
      exact I.st _ _ _ h
    · exact h.2.2
  · intro b o u j ob' h hj
    rw [setAt_get hid] at hj
    split at hj
    · rename_i e; subst e; cases hj
      rcases hst b o u h with h | h
      · intro hbl
        rcases hb b hbl with hge | ⟨o', ho', hbo⟩
        · have := stlt h; omega
        · exact I.own _ _ _ _ _ h ho' hbo
      · exact h.2.1
    · rw [blk_le (I.objs _ _ hj) le]
      rcases hst b o u h with h | h
      · exact I.own _ _ _ _ _ h hj
      · intro hbl
        have := blk_lt I hbl; omega
  · intro j ob' hj
    rw [setAt_get hid] at hj
    split at hj
    · rename_i e; subst e; cases hj; exact hok
    · rename_i e
      refine (I.objs _ _ hj).move le fun b hbl => hk b (blk_lt I hbl) fun o' ho' hbo => e (I.dis _ _ _ _ _ hj ho' hbl hbo)
  · intro i j o o' b hi hj hbi hbj
    rw [setAt_get hid] at hi hj
    split at hi
    · rename_i ei; subst ei; cases hi
      split at hj
      · rename_i ej; exact ej.symm
      · rename_i ej
        rw [blk_le (I.objs _ _ hj) le] at hbj
        rcases hb b hbi with hge | ⟨o2, ho2, hbo⟩
        · have := blk_lt I hbj; omega
        · exact I.dis _ _ _ _ _ ho2 hj hbo hbj
    · rename_i ei
      rw [blk_le (I.objs _ _ hi) le] at hbi
      split at hj
      · rename_i ej; subst ej; cases hj
        rcases hb b hbj with hge | ⟨o2, ho2, hbo⟩
        · have := blk_lt I hbi; omega
        · exact I.dis _ _ _ _ _ hi ho2 hbi hbo
      · rw [blk_le (I.objs _ _ hj) le] at hbj
        exact I.dis _ _ _ _ _ hi hj hbi hbj
  · intro j b h
    rcases hloc j b h with h | ⟨rfl, h⟩
    · have := I.dom _ _ h; omega
    · exact ⟨len.2, h⟩
  · intro j n p h
    rcases haloc j n p h with h | ⟨rfl, h⟩
    · have := I.adom _ _ _ h; omega
    · exact ⟨len.2, h⟩
  · intro j e n fz cs hj k p hkp
    rw [setAt_get hid] at hj
    split at hj
    · rename_i ej; subst ej; cases hj
      exact ham _ _ _ _ rfl k p hkp
    · rename_i ej
      rcases haloc j k p hkp with h | ⟨e, h⟩
      · exact I.amax _ _ _ _ _ hj k p h
      · exact (ej e).elim
  · intro gl i x h
    obtain ⟨u, hu, hr⟩ := I.glob gl i x h
    exact ⟨u, le.st _ _ _ hu, hr.mono le⟩
  · intro b hb' hn
    refine ⟨hk b hb' fun o' ho' => hn _ _ ho', fun j o hj => ?_⟩
    rw [setAt_get hid] at hj
    split at hj
    · rename_i e; subst e; cases hj
      intro hbl
      rcases hb b hbl with hge | ⟨o2, ho2, hbo⟩
      · omega
      · exact hn _ _ ho2 hbo
    · rw [blk_le (I.objs _ _ hj) le]
      exact hn _ _ hj

/-- The world has only grown; cells of new blocks are known to stay. -/
theorem Inv.grow {E : Env} {g : Ghost} {H : Heap} {w : World} (I : Inv E g H w) {g' : Ghost} {w' : World} (le : g.Le g') (hsz : w.heap.size ≤ w'.heap.size)
    (hk : ∀ b, b < w.heap.size → w'.heap[b]? = w.heap[b]?)
    (hst : ∀ b o u, g'.st b o = some u → g.st b o = some u ∨ (w.heap.size ≤ b ∧ w'.cell? ⟨b, o, none⟩ = some u))
    (hloc : g'.loc = g.loc) (haloc : g'.aloc = g.aloc) (hos : w'.os = w.os ∧ w'.output = w.output := by first | exact ⟨rfl, rfl⟩ | (simp [*]; done)) :
    Inv E g' H w' ∧ Step g H w g' H w' := by
  have stlt : ∀ {b o u}, g.st b o = some u → b < w.heap.size := fun h => cell_lt (I.st _ _ _ h)
  refine ⟨⟨?_, ?_, ?_, ?_, ?_, ?_, ?_, ?_⟩, le, hsz, ?_, Nat.le_refl _, fun b o u e => (hst b o u e).imp (fun e => e) fun e => e.1, hos⟩
  · intro b o u h
    rcases hst b o u h with h | h
    · rw [cell_congr (hk b (stlt h))]
      exact I.st _ _ _ h
    · exact h.2
  · intro b o u j ob' h hj
    rw [blk_le (I.objs _ _ hj) le]
    rcases hst b o u h with h | h
    · exact I.own _ _ _ _ _ h hj
    · intro hbl
      have := blk_lt I hbl; omega
  · intro j ob' hj
    exact (I.objs _ _ hj).move le fun b hbl => hk b (blk_lt I hbl)
  · intro i j o o' b hi hj hbi hbj
    rw [blk_le (I.objs _ _ hi) le] at hbi
    rw [blk_le (I.objs _ _ hj) le] at hbj
    exact I.dis _ _ _ _ _ hi hj hbi hbj
  · intro j b h
    rw [hloc] at h
    have := I.dom _ _ h; omega
  · intro j n p h
    rw [haloc] at h
    have := I.adom _ _ _ h; omega
  · intro j e n fz cs hj k p hkp
    rw [haloc] at hkp
    exact I.amax _ _ _ _ _ hj k p hkp
  · intro gl i x h
    obtain ⟨u, hu, hr⟩ := I.glob gl i x h
    exact ⟨u, le.st _ _ _ hu, hr.mono le⟩
  · intro b hb' hn
    exact ⟨hk b hb', fun j o hj => by rw [blk_le (I.objs _ _ hj) le]; exact hn _ _ hj⟩

theorem Inv.same {E : Env} {g : Ghost} {H : Heap} {w w' : World} (I : Inv E g H w) (h : w'.heap = w.heap) (hos : w'.os = w.os ∧ w'.output = w.output := by first | exact ⟨rfl, rfl⟩ | (simp [*]; done)) : Inv E g H w' ∧ Step g H w g H w' :=
  I.grow (.refl g) (by rw [h]; exact Nat.le_refl _) (fun b _ => by rw [h]) (fun b o u e => .inl e) rfl rfl hos

end Go.AI
end
section
/-! One operation: what the abstract run gives is what the model gives. -/
namespace Go.AI
open Go

def OpOk (E : Env) (g : Ghost) (H : Heap) (w : World) (H' : Heap) (r : Result Next) : ARes → Prop
  | .val x => ∃ v w' g', r = .ok (.value v) w' ∧ Inv E g' H' w' ∧ Step g H w g' H' w' ∧ Rel g' x v
  | .skip => ∃ w' g', r = .ok .skip w' ∧ Inv E g' H' w' ∧ Step g H w g' H' w'
  | .dfr f cap args => H' = H ∧ ∃ capV argsV : List Value, r = .ok (.defer { target := .fn f capV.toArray, args := argsV.toArray }) w ∧ RelL g cap capV ∧ RelL g args argsV
  | .enter f args => H' = H ∧ ∃ vs : List Value, r = .ok (.enter f vs.toArray) w ∧ RelL g args vs
  | .pan x => H' = H ∧ ∃ v, r = .halt (.panic v) w ∧ Rel g x v
  | .recov => H' = H ∧ r = .ok .recover w

section
variable {E : Env} {g : Ghost} {H : Heap} {w : World}

theorem OpOk.here (I : Inv E g H w) {x : AV} {v : Value} (h : Rel g x v) : OpOk E g H w H (.ok (.value v) w) (.val x) :=
  ⟨v, w, g, rfl, I, .refl _ _ _, h⟩
theorem OpOk.world (I : Inv E g H w) {x : AV} {v : Value} {w' : World} (hw : w'.heap = w.heap) (h : Rel g x v) (hos : w'.os = w.os ∧ w'.output = w.output := by first | exact ⟨rfl, rfl⟩ | (simp [*]; done)) : OpOk E g H w H (.ok (.value v) w') (.val x) :=
  ⟨v, w', g, rfl, (I.same hw hos).1, (I.same hw hos).2, h⟩

theorem heap_new (w : World) (o : Obj) : (w.alloc o).heap[w.heap.size]? = some o := by
  show (w.heap.push o)[w.heap.size]? = some o
  simp
theorem heap_old (w : World) (o : Obj) {r : Nat} (h : r < w.heap.size) : (w.alloc o).heap[r]? = w.heap[r]? := by
  show (w.heap.push o)[r]? = w.heap[r]?
  rw [Array.getElem?_push]
  split
  · omega
  · rfl

/-- A new variable. -/
theorem Inv.box (I : Inv E g H w) {t : TypeId} {cs : List AV} {us : Array Value} (h : RelL g cs us.toList) :
    ∃ g', Inv E g' (H ++ [.box t cs]) (w.alloc (.cells us t)) ∧ Step g H w g' (H ++ [.box t cs]) (w.alloc (.cells us t)) ∧ g'.loc H.length = some w.heap.size := by
  have hn : g.loc H.length = none := by
    cases e : g.loc H.length with
    | none => rfl
    | some b => have := (I.dom _ _ e).1; omega
  let g' : Ghost := { g with loc := fun i => if i = H.length then some w.heap.size else g.loc i }
  have le : g.Le g' := ⟨fun i b e => by
    show (if i = H.length then some w.heap.size else g.loc i) = some b
    rw [if_neg (fun e' => by subst e'; rw [hn] at e; cases e)]; exact e, fun _ _ _ e => e, fun _ _ _ e => e⟩
  have hl : g'.loc H.length = some w.heap.size := if_pos rfl
  have := I.turn (g' := g') (w' := w.alloc (.cells us t)) H.length (.box t cs) (Nat.le_refl _) le (by simp) (fun b hb _ => heap_old _ _ hb)
    ⟨w.heap.size, us, hl, heap_new _ _, h.mono le⟩
    (fun b hb => .inl (by
      have hb : g'.loc H.length = some b := hb
      rw [hl] at hb; cases hb; exact Nat.le_refl _))
    (fun b o u e => .inl e)
    (fun j b e => by
      have e : (if j = H.length then some w.heap.size else g.loc j) = some b := e
      split at e
      · rename_i hj; cases e; exact .inr ⟨hj, by simp⟩
      · exact .inl e)
    (fun j n p e => .inl e)
  have hs : setAt H H.length (.box t cs) = H ++ [.box t cs] := by simp [setAt]
  rw [hs] at this
  exact ⟨g', this.1, this.2, hl⟩

/-- A new map. -/
theorem Inv.newMap (I : Inv E g H w) :
    ∃ g', Inv E g' (H ++ [.map []]) (w.alloc (.map #[] 0)) ∧ Step g H w g' (H ++ [.map []]) (w.alloc (.map #[] 0)) ∧ g'.loc H.length = some w.heap.size := by
  have hn : g.loc H.length = none := by
    cases e : g.loc H.length with
    | none => rfl
    | some b => have := (I.dom _ _ e).1; omega
  let g' : Ghost := { g with loc := fun i => if i = H.length then some w.heap.size else g.loc i }
  have le : g.Le g' := ⟨fun i b e => by
    show (if i = H.length then some w.heap.size else g.loc i) = some b
    rw [if_neg (fun e' => by subst e'; rw [hn] at e; cases e)]; exact e, fun _ _ _ e => e, fun _ _ _ e => e⟩
  have hl : g'.loc H.length = some w.heap.size := if_pos rfl
  have := I.turn (g' := g') (w' := w.alloc (.map #[] 0)) H.length (.map []) (Nat.le_refl _) le (by simp) (fun b hb _ => heap_old _ _ hb)
    ⟨w.heap.size, #[], 0, hl, heap_new _ _, rfl, fun i k x m e => by simp at e⟩
    (fun b hb => .inl (by
      have hb : g'.loc H.length = some b := hb
      rw [hl] at hb; cases hb; exact Nat.le_refl _))
    (fun b o u e => .inl e)
    (fun j b e => by
      have e : (if j = H.length then some w.heap.size else g.loc j) = some b := e
      split at e
      · rename_i hj; cases e; exact .inr ⟨hj, by simp⟩
      · exact .inl e)
    (fun j n p e => .inl e)
  have hs : setAt H H.length (.map []) = H ++ [.map []] := by simp [setAt]
  rw [hs] at this
  exact ⟨g', this.1, this.2, hl⟩

/-- A new row that may be appended to. -/
theorem Inv.newArr (I : Inv E g H w) {e : TypeId} {n cap : Nat} {cs : List AV} {cur : Array Value} {i : TypeInfo} {w' : World} (hi : E.P.info? e = some i)
    (hw : w'.heap = (w.alloc (.cells cur e)).heap) (hl : (cur.toList.take (n * i.size)).length = n * i.size) (hc : n ≤ cap) (hm : cap ≤ maxLen) (hs : cur.size = cap * i.size)
    (h : RelL g cs (cur.toList.take (n * i.size))) (hos : w'.os = w.os ∧ w'.output = w.output := by first | exact ⟨rfl, rfl⟩ | (simp [*]; done)) :
    ∃ g', Inv E g' (H ++ [.arr e n false cs]) w' ∧ Step g H w g' (H ++ [.arr e n false cs]) w' ∧ g'.aloc H.length n = some (w.heap.size, cap) := by
  have hn : g.aloc H.length n = none := by
    cases e : g.aloc H.length n with
    | none => rfl
    | some b => have := (I.adom _ _ _ e).1; omega
  let g' : Ghost := { g with aloc := fun j m => if j = H.length ∧ m = n then some (w.heap.size, cap) else g.aloc j m }
  have le : g.Le g' := ⟨fun _ _ e => e, fun j m p e => by
    show (if j = H.length ∧ m = n then some (w.heap.size, cap) else g.aloc j m) = some p
    rw [if_neg (fun e' => by obtain ⟨e1, e2⟩ := e'; subst e1; subst e2; rw [hn] at e; cases e)]; exact e, fun _ _ _ e => e⟩
  have hloc : g'.aloc H.length n = some (w.heap.size, cap) := if_pos ⟨rfl, rfl⟩
  have := I.turn (g' := g') (w' := w') H.length (.arr e n false cs) (Nat.le_refl _) le (by rw [hw]; simp) (fun b hb _ => by rw [hw]; exact heap_old _ _ hb)
    ⟨w.heap.size, cap, _, i, cur, (0, 0), hloc, hi, by rw [hw]; exact heap_new _ _, fun _ => rfl, rfl, hl, hc, hm, hs, h.mono le⟩
    (fun b hb => .inl (by
      have hb : (g'.aloc H.length n).map (·.1) = some b := hb
      rw [hloc] at hb; cases hb; exact Nat.le_refl _))
    (fun b o u e => .inl e)
    (fun j b e => .inl e)
    (fun j m p e => by
      have e : (if j = H.length ∧ m = n then some (w.heap.size, cap) else g.aloc j m) = some p := e
      split at e
      · rename_i hj; cases e; exact .inr ⟨hj.1, by rw [hw]; simp⟩
      · exact .inl e)
    (fun e2 n2 fz2 cs2 heq k p hk => by
      cases heq
      have hk : (if H.length = H.length ∧ k = n then some (w.heap.size, cap) else g.aloc H.length k) = some p := hk
      split at hk
      · rename_i hj; omega
      · have := (I.adom _ _ _ hk).1; omega)
  have hs' : setAt H H.length (.arr e n false cs) = H ++ [.arr e n false cs] := by simp [setAt]
  rw [hs'] at this
  exact ⟨g', this.1, this.2, hloc⟩

/-- New cells that stay. -/
theorem Inv.newCells (I : Inv E g H w) {e : TypeId} {cs : List AV} {us : List Value} {cur : Array Value} {fr : Nat × Nat} {w' : World}
    (hw : w'.heap = (w.alloc (.cells cur e fr)).heap) (h : RelL g cs us) (hp : ∀ (i : Nat) (u : Value), us[i]? = some u → cur[i]? = some u) (hos : w'.os = w.os ∧ w'.output = w.output := by first | exact ⟨rfl, rfl⟩ | (simp [*]; done)) :
    ∃ g', Inv E g' H w' ∧ Step g H w g' H w' ∧ ∀ n cap, n ≤ cap → Rel g' (.sl n cs) (.slice (some ⟨w.heap.size, 0, none⟩) n cap) := by
  have hn : ∀ o, g.st w.heap.size o = none := fun o => by
    cases e : g.st w.heap.size o with
    | none => rfl
    | some u => have := cell_lt (I.st _ _ _ e); omega
  let g' : Ghost := { g with st := fun b o => if b = w.heap.size then us[o]? else g.st b o }
  have le : g.Le g' := ⟨fun _ _ e => e, fun _ _ _ e => e, fun b o u e => by
    show (if b = w.heap.size then us[o]? else g.st b o) = some u
    rw [if_neg (fun e' => by subst e'; rw [hn] at e; cases e)]; exact e⟩
  have key := I.grow (g' := g') (w' := w') le (by rw [hw]; simp) (fun b hb => by rw [hw]; exact heap_old _ _ hb)
    (fun b o u e1 => by
      have e2 : (if b = w.heap.size then us[o]? else g.st b o) = some u := e1
      by_cases hb : b = w.heap.size
      · subst hb
        rw [if_pos rfl] at e2
        refine .inr ⟨Nat.le_refl _, ?_⟩
        unfold World.cell?
        rw [hw, heap_new]
        exact hp _ _ e2
      · rw [if_neg hb] at e2
        exact .inl e2) rfl rfl
  refine ⟨g', key.1, key.2, fun n cap hc => ?_⟩
  exact .sl hc h.1 (h.mono le).2 (fun _ => rfl) (fun i u e => by
    show (if w.heap.size = w.heap.size then us[0 + i]? else g.st w.heap.size (0 + i)) = some u
    rw [if_pos rfl, Nat.zero_add]; exact e)

end

/-! ### Loads -/
section
variable {E : Env} {g : Ghost} {H : Heap} {w : World}

theorem isAgg_run {P : Program} {t : TypeId} {b : Bool} (h : isAggT P t = some b) (w : World) : (isAgg t).run P w = .ok b w := by
  obtain ⟨d, hd, hb⟩ := Option.map_eq_some_iff.1 h
  simp only [isAgg, Sem.run_bind, run_underlying hd, Result.andThen_ok]
  subst hb
  cases d <;> rfl
theorem size_run {P : Program} {t : TypeId} {n : Nat} (h : sizeT P t = some n) (w : World) : (sizeOf t).run P w = .ok n w := by
  obtain ⟨i, hi, rfl⟩ := Option.map_eq_some_iff.1 h
  simp [sizeOf, typeInfo, hi]
theorem zero_run {P : Program} {t : TypeId} {z : Value} (h : zeroT P t = some z) (w : World) : (zeroValue t).run P w = .ok z w := by
  obtain ⟨i, hi, hz⟩ := Option.bind_eq_some_iff.1 h
  simp [zeroValue, typeInfo, hi, hz]

theorem addr_add (b o n : Nat) : (⟨b, o, none⟩ : Addr).add n = ⟨b, o + n, none⟩ := by
  unfold Addr.add
  split
  · rename_i h; subst h; rfl
  · rfl

theorem loadCells_run {P : Program} (w : World) (b o : Nat) (cs : List Value) (h : ∀ j u, cs[j]? = some u → w.cell? ⟨b, o + j, none⟩ = some u) :
    (loadCells ⟨b, o, none⟩ cs.length).run P w = .ok cs.toArray w :=
  run_loadCells_list w ⟨b, o, none⟩ cs (fun j v hj => by rw [addr_add]; exact h j v hj)

/-- Reading a variable of which the cells are known. -/
theorem load_run {P : Program} {t : TypeId} {cells : List AV} {us : List Value} {off b o : Nat} {x : AV} {g : Ghost} {w : World} (h : aload P t cells off = some x)
    (hr : RelL g cells us) (hc : ∀ i u, us[i]? = some u → w.cell? ⟨b, o + i, none⟩ = some u) :
    ∃ v, (loadVar t ⟨b, o + off, none⟩).run P w = .ok v w ∧ Rel g x v := by
  unfold aload at h
  split at h
  · rename_i n h1 h2
    split at h
    · rename_i hn
      cases h
      have hd := (hr.drop off).take n
      have hlen : ((us.drop off).take n).length = n := by
        rw [← hd.1]; simp; omega
      refine ⟨.agg ((us.drop off).take n).toArray, ?_, .agg hd.1 hd.2⟩
      have := loadCells_run (P := P) w b (o + off) ((us.drop off).take n) (fun j u hj => by
        rw [List.getElem?_take] at hj
        split at hj
        · rw [List.getElem?_drop] at hj
          rw [Nat.add_assoc]; exact hc _ _ hj
        · cases hj)
      rw [hlen] at this
      simp [loadVar, isAgg_run h1, size_run h2, this]
    · cases h
  · rename_i n h1 h2
    obtain ⟨u, hu, hru⟩ := hr.get h
    refine ⟨u, ?_, hru⟩
    simp [loadVar, isAgg_run h1, hc _ _ hu]
  · cases h

end
end Go.AI
end
section
namespace Go.AI
open Go

section
variable {E : Env} {g : Ghost} {H : Heap} {w : World}

theorem one_cell {g : Ghost} {x : AV} {u : Value} (h : x.one = true) (r : Rel g x u) : u.oneCell' = true := by
  cases r with
  | top => cases h
  | v u => cases u <;> first | rfl | cases h
  | agg => cases h
  | tup => cases h
  | _ => rfl
theorem one_cells {g : Ghost} {xs : List AV} {us : List Value} (h : xs.all AV.one = true) (r : RelL g xs us) : ∀ u ∈ us, u.oneCell' = true := by
  induction xs generalizing us with
  | nil => rw [r.nil_of]; intro u hu; cases hu
  | cons x xs ih =>
    obtain ⟨u, us', rfl, r1, r2⟩ := r.cases
    simp only [List.all_cons, Bool.and_eq_true] at h
    intro v hv
    rcases List.mem_cons.1 hv with rfl | hv
    · exact one_cell h.1 r1
    · exact ih h.2 r2 v hv

theorem splice_rel {g : Ghost} {cells xs : List AV} {us ws : List Value} (off : Nat) (h : RelL g cells us) (k : RelL g xs ws) :
    RelL g (splice cells off xs) (us.take off ++ ws ++ us.drop (off + ws.length)) := by
  unfold splice
  rw [← k.1]
  exact ((h.take off).append k).append (h.drop _)

theorem heap_setRow_ne {w : World} {b c : Nat} {cs : Array Value} (h : c ≠ b) : (w.setRow b cs).heap[c]? = w.heap[c]? := by
  unfold World.setRow
  simp only [Array.getElem?_modify]
  rw [if_neg (fun e => h e.symm)]
theorem size_setRow {w : World} {b : Nat} {cs : Array Value} : (w.setRow b cs).heap.size = w.heap.size := by
  simp [World.setRow]

/-- A variable is written. -/
theorem store_box (I : Inv E g H w) {id off b : Nat} {u t : TypeId} {cs cs' : List AV} {x : AV} {v : Value} (hH : H[id]? = some (.box u cs)) (hl : g.loc id = some b)
    (h : astore E.P t cs off x = some cs') (r : Rel g x v) :
    ∃ w', (Instr.storeAt t (.pointer (some ⟨b, off, none⟩)) v).run E.P w = .ok () w' ∧ Inv E g (H.set id (.box u cs')) w' ∧ Step g H w g (H.set id (.box u cs')) w' := by
  unfold astore at h
  split at h
  · rename_i xs n h1 h2
    split at h
    · rename_i hc
      cases h
      obtain ⟨hx, hoff, hone⟩ := hc
      have rc := cells_rel h1 r
      obtain ⟨b', us, hb', hh, hr⟩ := I.objs _ _ hH
      rw [hl] at hb'; cases hb'
      have hlen : v.cells.toList.length = n := by rw [← rc.1]; exact hx
      have hcur : us.size = cs.length := by rw [hr.1]; simp
      have hrun := run_storeCells_at (P := E.P) b off u v.cells.toList 0 us w hh (by rw [hlen, hcur]; omega) (one_cells hone rc)
      refine ⟨w.setRow b (us.toList.take (off + 0) ++ v.cells.toList ++ us.toList.drop (off + 0 + v.cells.toList.length)).toArray, ?_, ?_⟩
      · have hsz : v.cells.size = n := by rw [← hlen]; simp
        simp [Instr.storeAt, Instr.sureAddr, storeVar, size_run h2, hsz, hrun]
      · have hid : id < H.length := (List.getElem?_eq_some_iff.1 hH).1
        have := I.turn (g' := g) (w' := w.setRow b (us.toList.take (off + 0) ++ v.cells.toList ++ us.toList.drop (off + 0 + v.cells.toList.length)).toArray) id
          (.box u (splice cs off xs)) (Nat.le_of_lt hid) (.refl g) (by rw [size_setRow]; exact Nat.le_refl _)
          (fun c hc hn => heap_setRow_ne (fun e => by subst e; exact hn _ hH hl))
          ⟨b, _, hl, setRow_heap w b us _ u _ hh, by simpa using splice_rel off hr rc⟩
          (fun c hc => .inr ⟨_, hH, hc⟩) (fun c o u e => .inl e) (fun j c e => .inl e) (fun j m p e => .inl e)
        simpa [setAt, hid] using this
    · cases h
  · cases h

theorem take_splice {α : Type} (l vs : List α) (off m : Nat) (h : off + vs.length ≤ m) (hm : m ≤ l.length) :
    (l.take off ++ vs ++ l.drop (off + vs.length)).take m = (l.take m).take off ++ vs ++ (l.take m).drop (off + vs.length) := by
  have h1 : (l.take off ++ vs).length = off + vs.length := by simp; omega
  rw [List.take_append, List.take_of_length_le (by rw [h1]; exact h), h1, List.take_take, Nat.min_eq_left (by omega), List.drop_take]

/-- An element of a row is written. -/
theorem store_arr (I : Inv E g H w) {id off b n cap : Nat} {e t : TypeId} {cs cs' : List AV} {x : AV} {v : Value} (hH : H[id]? = some (.arr e n false cs)) (hl : g.aloc id n = some (b, cap))
    (h : astore E.P t cs off x = some cs') (r : Rel g x v) :
    ∃ w', (Instr.storeAt t (.pointer (some ⟨b, off, none⟩)) v).run E.P w = .ok () w' ∧ Inv E g (H.set id (.arr e n false cs')) w' ∧ Step g H w g (H.set id (.arr e n false cs')) w' := by
  unfold astore at h
  split at h
  · rename_i xs m h1 h2
    split at h
    · rename_i hc
      cases h
      obtain ⟨hx, hoff, hone⟩ := hc
      have rc := cells_rel h1 r
      obtain ⟨b', cap', us, i, cur, fr, hb', hi, hh, hfr, hus, hul, hn, hmax, hcs, hr⟩ := I.objs _ _ hH
      rw [hl] at hb'; cases hb'
      have hfr := hfr rfl; subst hfr
      have hlen : v.cells.toList.length = m := by rw [← rc.1]; exact hx
      have hle : n * i.size ≤ cur.size := by rw [hcs]; exact Nat.mul_le_mul_right _ hn
      have hcl : cs.length = n * i.size := by rw [hr.1, hul]
      have hrun := run_storeCells_at (P := E.P) b off e v.cells.toList 0 cur w hh (by rw [hlen]; omega) (one_cells hone rc)
      refine ⟨w.setRow b (cur.toList.take (off + 0) ++ v.cells.toList ++ cur.toList.drop (off + 0 + v.cells.toList.length)).toArray, ?_, ?_⟩
      · have hsz : v.cells.size = m := by rw [← hlen]; simp
        simp [Instr.storeAt, Instr.sureAddr, storeVar, size_run h2, hsz, hrun]
      · have hid : id < H.length := (List.getElem?_eq_some_iff.1 hH).1
        have hbl : blk g id (.arr e n false cs) = some b := by simp [blk, hl]
        have hsplit := take_splice cur.toList v.cells.toList off (n * i.size) (by rw [hlen]; omega) (by simpa using hle)
        have := I.turn (g' := g) (w' := w.setRow b (cur.toList.take (off + 0) ++ v.cells.toList ++ cur.toList.drop (off + 0 + v.cells.toList.length)).toArray) id
          (.arr e n false (splice cs off xs)) (Nat.le_of_lt hid) (.refl g) (by rw [size_setRow]; exact Nat.le_refl _)
          (fun c hc hn => heap_setRow_ne (fun e => by subst e; exact hn _ hH hbl))
          ⟨b, cap, _, i, _, (0, 0), hl, hi, setRow_heap w b cur _ e _ hh, fun _ => rfl, rfl, by
            simp only [Nat.add_zero]
            rw [hsplit, hus]
            have := (splice_rel off hr rc).1
            rw [← this]
            unfold splice
            simp only [List.length_append, List.length_take, List.length_drop]
            omega, hn, hmax, by (have hsz : v.cells.size = m := by rw [← hlen]; simp); simp; omega, by
            simp only [Nat.add_zero]
            rw [hsplit, hus]
            exact splice_rel off hr rc⟩
          (fun c hc => .inr ⟨_, hH, hc⟩) (fun c o u e => .inl e) (fun j c e => .inl e) (fun j m p e => .inl e) (fun _ _ _ _ heq k p hk => by cases heq; exact I.amax _ _ _ _ _ hH k p hk)
        simpa [setAt, hid] using this
    · cases h
  · cases h

end
end Go.AI
end
section
namespace Go.AI
open Go

section
variable {E : Env} {g : Ghost} {H : Heap} {w : World} {ρ : Operand → AV} {ρv : Operand → Value} {o : Oper} {res : ARes} {H' : Heap}

theorem relL_map (hρ : ∀ x, Rel g (ρ x) (ρv x)) (xs : List Operand) : RelL g (xs.map ρ) (xs.map ρv) := by
  induction xs with
  | nil => exact .nil g
  | cons x xs ih => exact .cons (hρ x) ih

theorem ok_alloc (I : Inv E g H w) {t : TypeId} (hop : o.op = .alloc t) (h : aop E ρ o H = some (res, H')) : OpOk E g H w H' ((execOp ρv o).run E.P w) res := by
  simp only [aop, hop] at h
  split at h
  · rename_i z hz
    split at h
    · rename_i cs hcs
      cases h
      obtain ⟨g', h1, h2, h3⟩ := I.box (t := t) (us := z.cells) (cells_rel hcs (conv_rel g z))
      refine ⟨.pointer (some ⟨w.heap.size, 0, none⟩), w.alloc (.cells z.cells t), g', ?_, h1, h2, .ptr 0 h3⟩
      simp [execOp, hop, Instr.alloc, zero_run hz, newVar, newRow]
    · cases h
  · cases h

theorem ok_box (I : Inv E g H w) (hρ : ∀ x, Rel g (ρ x) (ρv x)) {t : TypeId} {x : Operand} (hop : o.op = .box t x) (h : aop E ρ o H = some (res, H')) : OpOk E g H w H' ((execOp ρv o).run E.P w) res := by
  simp only [aop, hop] at h
  split at h
  · rename_i cs hcs
    cases h
    obtain ⟨g', h1, h2, h3⟩ := I.box (t := t) (us := (ρv x).cells) (cells_rel hcs (hρ x))
    refine ⟨.pointer (some ⟨w.heap.size, 0, none⟩), w.alloc (.cells (ρv x).cells t), g', ?_, h1, h2, .ptr 0 h3⟩
    simp [execOp, hop, Instr.box, newVar, newRow]
  · cases h

theorem cells_ok {b : Nat} {us : Array Value} {t : TypeId} {fr : Nat × Nat} (hh : w.heap[b]? = some (.cells us t fr)) : ∀ i u, us.toList[i]? = some u → w.cell? ⟨b, 0 + i, none⟩ = some u := by
  intro i u hu
  unfold World.cell?
  rw [hh, Nat.zero_add]
  simpa using hu

/-- A load through a pointer. -/
theorem load_ptr (I : Inv E g H w) {t : TypeId} {a : AV} {p : Value} {x : AV} (ha : (match a with
    | .ptr id off => match H[id]? with
      | some (.box _ cs) => aload E.P t cs off
      | _ => none
    | .ap id n off => match H[id]? with
      | some (.arr _ n' _ cs) => if n' = n then aload E.P t cs off else none
      | _ => none
    | .ep cs => aload E.P t cs 0
    | _ => none) = some x) (r : Rel g a p) : ∃ b off v, p = .pointer (some ⟨b, off, none⟩) ∧ (loadVar t ⟨b, off, none⟩).run E.P w = .ok v w ∧ Rel g x v := by
  cases r with
  | ptr off hl =>
    rename_i id b
    simp only at ha
    split at ha
    · rename_i t' cs hH
      obtain ⟨b', us, hb, hh, hr⟩ := I.objs _ _ hH
      rw [hl] at hb; cases hb
      obtain ⟨v, hv, hrv⟩ := load_run (o := 0) ha hr (cells_ok hh)
      rw [Nat.zero_add] at hv
      exact ⟨b, off, v, rfl, hv, hrv⟩
    · cases ha
  | ap off hl =>
    rename_i id n b cap
    simp only at ha
    split at ha
    · rename_i e n' fz cs hH
      split at ha
      · rename_i hn; subst hn
        obtain ⟨b', cap', us, i, cur, fr, hb', hi, hh, hfr, hus, hul, hn, hmax, hcs, hr⟩ := I.objs _ _ hH
        rw [hl] at hb'; cases hb'
        obtain ⟨v, hv, hrv⟩ := load_run (o := 0) ha hr (fun i u hu => cells_ok hh i u (by
          rw [← hus, List.getElem?_take] at hu
          split at hu
          · exact hu
          · cases hu))
        rw [Nat.zero_add] at hv
        exact ⟨b, off, v, rfl, hv, hrv⟩
      · cases ha
    · cases ha
  | ep hl hr hst =>
    rename_i cs us b off
    simp only at ha
    obtain ⟨v, hv, hrv⟩ := load_run (off := 0) (o := off) ha ⟨hl, hr⟩ (fun i u hu => I.st _ _ _ (hst i u hu))
    exact ⟨b, off, v, rfl, hv, hrv⟩
  | _ => cases ha

theorem ok_load (I : Inv E g H w) (hρ : ∀ x, Rel g (ρ x) (ρv x)) {t : TypeId} {a : Operand} (hop : o.op = .load t a) (h : aop E ρ o H = some (res, H')) : OpOk E g H w H' ((execOp ρv o).run E.P w) res := by
  have key : ∃ x, res = .val x ∧ H' = H ∧ (match ρ a with
    | .ptr id off => match H[id]? with
      | some (.box _ cs) => aload E.P t cs off
      | _ => none
    | .ap id n off => match H[id]? with
      | some (.arr _ n' _ cs) => if n' = n then aload E.P t cs off else none
      | _ => none
    | .ep cs => aload E.P t cs 0
    | _ => none) = some x := by
    simp only [aop, hop] at h
    split at h
    · rename_i ha
      split at h
      · rename_i hH
        obtain ⟨x, hx, he⟩ := Option.map_eq_some_iff.1 h
        cases he
        exact ⟨x, rfl, rfl, by rw [ha]; simp only [hH]; exact hx⟩
      · cases h
    · rename_i ha
      split at h
      · rename_i hH
        split at h
        · rename_i hn
          obtain ⟨x, hx, he⟩ := Option.map_eq_some_iff.1 h
          cases he
          exact ⟨x, rfl, rfl, by rw [ha]; simp only [hH, hn, if_true]; exact hx⟩
        · cases h
      · cases h
    · rename_i ha
      obtain ⟨x, hx, he⟩ := Option.map_eq_some_iff.1 h
      cases he
      exact ⟨x, rfl, rfl, by rw [ha]; exact hx⟩
    · cases h
  obtain ⟨x, rfl, rfl, hx⟩ := key
  obtain ⟨b, off, v, hp, hv, hr⟩ := load_ptr I hx (hρ a)
  refine ⟨v, w, g, ?_, I, .refl _ _ _, hr⟩
  simp [execOp, hop, Instr.loadAt, Instr.sureAddr, hp, hv]

theorem ok_store (I : Inv E g H w) (hρ : ∀ x, Rel g (ρ x) (ρv x)) {t : TypeId} {a x : Operand} (hop : o.op = .store t a x) (h : aop E ρ o H = some (res, H')) : OpOk E g H w H' ((execOp ρv o).run E.P w) res := by
  simp only [aop, hop] at h
  split at h
  · rename_i id off ha
    split at h
    · rename_i u cs hH
      obtain ⟨cs', hx, he⟩ := Option.map_eq_some_iff.1 h
      cases he
      have ra := hρ a
      rw [ha] at ra
      cases hp : ρv a with
      | pointer p =>
        rw [hp] at ra
        cases ra with
        | ptr off hl =>
          obtain ⟨w', h1, h2, h3⟩ := store_box I hH hl hx (hρ x)
          refine ⟨w', g, ?_, h2, h3⟩
          simp [execOp, hop, hp, h1]
      | _ => rw [hp] at ra; cases ra
    · cases h
  · rename_i id n off ha
    split at h
    · rename_i e n' fz cs hH
      split at h
      · rename_i hc
        obtain ⟨rfl, rfl⟩ := hc
        obtain ⟨cs', hx, he⟩ := Option.map_eq_some_iff.1 h
        cases he
        have ra := hρ a
        rw [ha] at ra
        cases hp : ρv a with
        | pointer p =>
          rw [hp] at ra
          cases ra with
          | ap off hl =>
            obtain ⟨w', h1, h2, h3⟩ := store_arr I hH hl hx (hρ x)
            refine ⟨w', g, ?_, h2, h3⟩
            simp [execOp, hop, hp, h1]
        | _ => rw [hp] at ra; cases ra
      · cases h
    · cases h
  · cases h

theorem ok_quiet (I : Inv E g H w) {s : Sem Value} {r : Value} (hq : quiet E.P s = some r) (hr : (execOp ρv o).run E.P w = (s.run E.P w).andThen fun a w' => .ok (.value a) w') : OpOk E g H w H ((execOp ρv o).run E.P w) (.val (conv r)) := by
  rw [hr, quiet_run s hq w]
  exact OpOk.here I (conv_rel g r)

theorem ok_unOp (I : Inv E g H w) (hρ : ∀ x, Rel g (ρ x) (ρv x)) {p : UnOp} {t : TypeId} {x : Operand} (hop : o.op = .unOp p t x) (h : aop E ρ o H = some (res, H')) : OpOk E g H w H' ((execOp ρv o).run E.P w) res := by
  simp only [aop, hop] at h
  split at h
  · rename_i a ha
    obtain ⟨r, hq, he⟩ := Option.map_eq_some_iff.1 h
    cases he
    refine ok_quiet I hq ?_
    simp [execOp, hop, un_rel ha (hρ x)]
  · cases h

theorem ok_makeInterface (I : Inv E g H w) (hρ : ∀ x, Rel g (ρ x) (ρv x)) {t : TypeId} {x : Operand} (hop : o.op = .makeInterface t x) (h : aop E ρ o H = some (res, H')) : OpOk E g H w H' ((execOp ρv o).run E.P w) res := by
  simp only [aop, hop] at h
  split at h
  · cases h
  · cases h
  · rename_i hne1 hne2
    split at h
    · cases h
    · cases h
      cases hu : E.P.underlying t with
      | none => exact (hne2 hu).elim
      | some d =>
        have hr : (execOp ρv o).run E.P w = .ok (.value (.iface t (ρv x))) w := by
          cases d <;> first | exact (hne1 _ hu).elim | simp [execOp, hop, Instr.makeInterface, run_underlying hu]
        rw [hr]
        exact OpOk.here I (.ifc (hρ x))

theorem ok_makeFunc (I : Inv E g H w) (hρ : ∀ x, Rel g (ρ x) (ρv x)) {f : Fn} {first cap : Array Operand} (hop : o.op = .makeFunc f first cap) (h : aop E ρ o H = some (res, H')) : OpOk E g H w H' ((execOp ρv o).run E.P w) res := by
  simp only [aop, hop] at h
  cases h
  have h1 := relL_map hρ first.toList
  have h2 := relL_map hρ cap.toList
  have hr : (execOp ρv o).run E.P w = .ok (.value (.func f (first.toList.map ρv).toArray (cap.toList.map ρv).toArray)) w := by
    simp only [execOp, hop, Instr.makeFunc, Sem.run_bind, Sem.run_pure, Result.andThen_ok]
    congr 2
    rw [Value.func.injEq]
    exact ⟨rfl, by rw [← Array.toList_map], by rw [← Array.toList_map]⟩
  rw [hr]
  exact OpOk.here I (.fn h1.1 h2.1 h1.2 h2.2)

theorem ok_makeMap (I : Inv E g H w) {t : TypeId} {r : Option Operand} (hop : o.op = .makeMap t r) (h : aop E ρ o H = some (res, H')) : OpOk E g H w H' ((execOp ρv o).run E.P w) res := by
  simp only [aop, hop] at h
  split at h
  · cases h
    obtain ⟨g', h1, h2, h3⟩ := I.newMap
    refine ⟨.map (some w.heap.size), w.alloc (.map #[] 0), g', ?_, h1, h2, .mp h3⟩
    simp [execOp, hop, Instr.makeMap]
  · cases h

theorem ok_extract (I : Inv E g H w) (hρ : ∀ x, Rel g (ρ x) (ρv x)) {x : Operand} {i : Nat} (hop : o.op = .extract x i) (h : aop E ρ o H = some (res, H')) : OpOk E g H w H' ((execOp ρv o).run E.P w) res := by
  simp only [aop, hop] at h
  split at h
  · rename_i vs hx
    obtain ⟨y, hy, he⟩ := Option.map_eq_some_iff.1 h
    cases he
    have rx := hρ x
    rw [hx] at rx
    cases hv : ρv x with
    | tuple us =>
      rw [hv] at rx
      cases rx with
      | tup hl hr =>
        rename_i us
        obtain ⟨u, hu, hru⟩ := RelL.get ⟨hl, hr⟩ hy
        have hrun : (execOp ρv o).run E.P w = .ok (.value u) w := by simp [execOp, hop, hv, Instr.extract, hu]
        rw [hrun]
        exact OpOk.here I hru
    | _ => rw [hv] at rx; cases rx
  · cases h

end
end Go.AI
end
section
namespace Go.AI
open Go

section
variable {E : Env} {g : Ghost} {H : Heap} {w : World} {ρ : Operand → AV} {ρv : Operand → Value} {o : Oper} {res : ARes} {H' : Heap}

theorem foldl_put (off : Nat) : ∀ (l : List Value) (k : Nat) (cs : Array Value), off + k + l.length ≤ cs.size →
    ((l.zipIdx k).foldl (fun cs p => cs.setIfInBounds (off + p.2) p.1) cs).toList = cs.toList.take (off + k) ++ l ++ cs.toList.drop (off + k + l.length)
  | [], k, cs, _ => by simp
  | v :: l, k, cs, h => by
    have hl : off + k + (l.length + 1) ≤ cs.size := by simpa using h
    rw [List.zipIdx_cons, List.foldl_cons, foldl_put off l (k + 1) _ (by simp; omega)]
    have := list_seg_step cs.toList (off + k) v l (by simp; omega)
    simpa [Nat.add_assoc] using this

theorem fill_put (off : Nat) (vc cs : Array Value) (h : off + vc.size ≤ cs.size) :
    (vc.zipIdx.foldl (fun cs p => cs.setIfInBounds (off + p.2) p.1) cs).toList = cs.toList.take off ++ vc.toList ++ cs.toList.drop (off + vc.toList.length) := by
  have := foldl_put off vc.toList 0 cs (by simpa using h)
  rw [← Array.foldl_toList, Array.toList_zipIdx]
  simpa using this

theorem afill_rel {place : Nat → Option (Nat × Nat)} : ∀ {parts : List (Nat × AV)} {pv : List (Nat × Value)} {cells : List AV} {cv : List Value} {cs : List AV},
    afill place cells parts = some cs → RelL g cells cv → (parts.map (·.1)) = (pv.map (·.1)) → RelL g (parts.map (·.2)) (pv.map (·.2)) →
    ∃ cv' : List Value, Instr.fill place cv.toArray pv = some cv'.toArray ∧ RelL g cs cv'
  | [], pv, cells, cv, cs, h, hr, h1, h2 => by
    have : pv = [] := by cases pv with | nil => rfl | cons a b => simp at h1
    subst this
    simp only [afill, Option.some.injEq] at h
    subst h
    exact ⟨cv, rfl, hr⟩
  | (i, x) :: rest, pv, cells, cv, cs, h, hr, h1, h2 => by
    cases pv with
    | nil => simp at h1
    | cons q pv =>
      obtain ⟨j, v⟩ := q
      simp only [List.map_cons, List.cons.injEq] at h1
      obtain ⟨rfl, h1⟩ := h1
      simp only [List.map_cons] at h2
      unfold afill at h
      split at h
      · rename_i off size xs hp hx
        split at h
        · rename_i hc
          have rc := cells_rel hx h2.head
          have hsz : v.cells.size = size := by rw [← hc.1, rc.1]; simp
          have hle : off + v.cells.size ≤ cv.toArray.size := by
            have := hr.1; simp; omega
          have hpl := fill_put off v.cells cv.toArray hle
          have hsp := splice_rel off hr rc
          obtain ⟨cv', h3, h4⟩ := afill_rel (pv := pv) h hsp h1 h2.tail
          refine ⟨cv', ?_, h4⟩
          unfold Instr.fill
          rw [hp]
          simp only
          rw [if_neg (by simp [hsz]; simp at hle; omega)]
          have : (v.cells.zipIdx.foldl (fun cs x => match x with | (c, j) => cs.setIfInBounds (off + j) c) cv.toArray) = (List.take off cv ++ v.cells.toList ++ List.drop (off + v.cells.toList.length) cv).toArray := by
            rw [← hpl]
          rw [← h3]
          congr 1
        · cases h
      · cases h

theorem mapM_places {P : Program} : ∀ (fs : List Field) {ps : List (Nat × Nat)}, fs.mapM (fun f => (sizeT P f.type).map fun n => (f.offset, n)) = some ps → ∀ w : World,
    (fs.mapM (m := Sem) (fun f => do pure (f.offset, ← sizeOf f.type))).run P w = .ok ps w
  | [], ps, h, w => by simp at h; subst h; rfl
  | f :: fs, ps, h, w => by
    rw [List.mapM_cons] at h
    obtain ⟨p, hp, h⟩ := Option.bind_eq_some_iff.1 h
    obtain ⟨qs, hq, h⟩ := Option.bind_eq_some_iff.1 h
    obtain ⟨n, hn, rfl⟩ := Option.map_eq_some_iff.1 hp
    cases h
    rw [List.mapM_cons]
    simp only [Sem.run_bind, Sem.run_pure, size_run hn, Result.andThen_ok, mapM_places fs hq w]

theorem parts_rel (hρ : ∀ x, Rel g (ρ x) (ρv x)) (parts : List (Nat × Operand)) : (parts.map fun p => (p.1, ρ p.2)).map (·.1) = (parts.map fun p => (p.1, ρv p.2)).map (·.1) ∧
    RelL g ((parts.map fun p => (p.1, ρ p.2)).map (·.2)) ((parts.map fun p => (p.1, ρv p.2)).map (·.2)) := by
  refine ⟨by simp, ?_⟩
  have := relL_map hρ (parts.map (·.2))
  simpa [Function.comp_def] using this

theorem ok_build (I : Inv E g H w) (hρ : ∀ x, Rel g (ρ x) (ρv x)) {t : TypeId} {parts : Array (Nat × Operand)} (hop : o.op = .build t parts) (h : aop E ρ o H = some (res, H')) : OpOk E g H w H' ((execOp ρv o).run E.P w) res := by
  simp only [aop, hop] at h
  split at h
  · rename_i z fields hz hu
    split at h
    · rename_i zs places hzs hpl
      split at h
      · rename_i cs hf
        cases h
        obtain ⟨p1, p2⟩ := parts_rel hρ parts.toList
        obtain ⟨cv, hcv, hr⟩ := afill_rel hf (cells_rel hzs (conv_rel g z)) p1 p2
        have hm := mapM_places fields.toList hpl w
        have hrun : (execOp ρv o).run E.P w = .ok (.value (.agg cv.toArray)) w := by
          have hm2 : (fields.mapM (m := Sem) (fun f => do pure (f.offset, ← sizeOf f.type))).run E.P w = .ok places.toArray w := by
            rw [← Array.toArray_toList (xs := fields), List.mapM_toArray]
            simp only [Sem.run_map, hm, Result.andThen_ok]
          have hcv2 : Instr.fill (fun x => places.toArray[x]?) z.cells (parts.map fun x => match x with | (i, x) => (i, ρv x)).toList = some cv.toArray := by
            have e1 : (fun x : Nat => places.toArray[x]?) = (fun x : Nat => places[x]?) := by funext x; simp
            rw [e1, ← hcv]
            congr 1
            simp
          simp only [execOp, hop, Instr.build, Sem.run_bind, zero_run hz, run_underlying hu, Result.andThen_ok, hm2, hcv2, Sem.run_pure]
        rw [hrun]
        exact OpOk.here I (.agg hr.1 hr.2)
      · cases h
    · cases h
  · rename_i z n e hz hu
    split at h
    · rename_i zs size hzs hsz
      split at h
      · rename_i cs hf
        cases h
        obtain ⟨p1, p2⟩ := parts_rel hρ parts.toList
        obtain ⟨cv, hcv, hr⟩ := afill_rel hf (cells_rel hzs (conv_rel g z)) p1 p2
        have hrun : (execOp ρv o).run E.P w = .ok (.value (.agg cv.toArray)) w := by
          have hcv2 : Instr.fill (fun i => some (i * size, size)) z.cells (parts.map fun x => match x with | (i, x) => (i, ρv x)).toList = some cv.toArray := by
            rw [← hcv]
            congr 1
            simp
          simp only [execOp, hop, Instr.build, Sem.run_bind, zero_run hz, run_underlying hu, Result.andThen_ok, size_run hsz, hcv2, Sem.run_pure]
        rw [hrun]
        exact OpOk.here I (.agg hr.1 hr.2)
      · cases h
    · cases h
  · cases h

def repeatV (z : List Value) : Nat → List Value
  | 0 => []
  | n + 1 => z ++ repeatV z n
theorem repeatV_length (z : List Value) : ∀ n, (repeatV z n).length = n * z.length
  | 0 => by simp [repeatV]
  | n + 1 => by rw [repeatV, List.length_append, repeatV_length z n, Nat.succ_mul, Nat.add_comm]
theorem repeatV_get (z : List Value) (hz : 0 < z.length) : ∀ (n i : Nat), i < n * z.length → (repeatV z n)[i]? = z[i % z.length]?
  | 0, i, h => by simp at h
  | n + 1, i, h => by
    rw [repeatV]
    rcases Nat.lt_or_ge i z.length with hi | hi
    · rw [List.getElem?_append_left hi, Nat.mod_eq_of_lt hi]
    · rw [List.getElem?_append_right hi, repeatV_get z hz n (i - z.length) (by rw [Nat.succ_mul] at h; omega)]
      congr 1
      rw [Nat.mod_eq_sub_mod hi]
theorem range_repeat (z : Array Value) (n : Nat) : ((Array.range (n * z.size)).map fun i => z[i % z.size]!).toList = repeatV z.toList n := by
  rcases Nat.eq_zero_or_pos z.size with h0 | h0
  · have hl : (repeatV z.toList n) = [] := List.eq_nil_of_length_eq_zero (by rw [repeatV_length]; simp [h0])
    rw [hl, h0]
    simp
  · apply List.ext_getElem?
    intro i
    rcases Nat.lt_or_ge i (n * z.size) with hi | hi
    · rw [repeatV_get z.toList (by simpa using h0) n i (by simpa using hi)]
      have hm : i % z.size < z.size := Nat.mod_lt _ h0
      simp [hi, hm]
    · rw [List.getElem?_eq_none (by simpa using hi), List.getElem?_eq_none (by rw [repeatV_length]; simpa using hi)]
theorem repeat_rel {zs : List AV} {z : List Value} (h : RelL g zs z) : ∀ n, RelL g (repeatCells zs n) (repeatV z n)
  | 0 => .nil g
  | n + 1 => h.append (repeat_rel h n)

theorem byteT_some {P : Program} {t : TypeId} (h : byteT P t = true) : P.underlying t = some (.int .u8) := by
  unfold byteT at h
  split at h
  · assumption
  · cases h

theorem ok_buildSlice (I : Inv E g H w) (hρ : ∀ x, Rel g (ρ x) (ρv x)) {t : TypeId} {len : Nat} {parts : Array (Nat × Operand)} (hop : o.op = .buildSlice t len parts) (h : aop E ρ o H = some (res, H')) : OpOk E g H w H' ((execOp ρv o).run E.P w) res := by
  simp only [aop, hop] at h
  split at h
  · rename_i e hu
    split at h
    · rename_i size z hsz hz
      split at h
      · rename_i zs hzs
        split at h
        · rename_i hc
          split at h
          · rename_i cs hf
            have rz := cells_rel hzs (conv_rel g z)
            have hzsz : z.cells.size = size := by rw [← hc.2, rz.1]; simp
            obtain ⟨p1, p2⟩ := parts_rel hρ parts.toList
            obtain ⟨cv, hcv, hr⟩ := afill_rel hf (repeat_rel rz len) p1 p2
            have hlen : cv.length = len * size := by
              have key : ∀ {place : Nat → Option (Nat × Nat)} {ps : List (Nat × AV)} {c d : List AV}, afill place c ps = some d → d.length = c.length := by
                intro place ps
                induction ps with
                | nil => intro c d h; simp only [afill, Option.some.injEq] at h; rw [h]
                | cons p ps ih =>
                  intro c d h
                  unfold afill at h
                  split at h
                  · split at h
                    · rename_i hc
                      rw [ih h]
                      unfold splice
                      simp only [List.length_append, List.length_take, List.length_drop]
                      omega
                    · cases h
                  · cases h
              rw [← hr.1, key hf, (repeat_rel rz len).1, repeatV_length]
              simp [hzsz]
            have hz0 : ((Array.range (len * size)).map fun i => z.cells[i % z.cells.size]!) = (repeatV z.cells.toList len).toArray := by
              apply Array.toList_inj.1
              rw [← hzsz, range_repeat]
            have hcv2 : Instr.fill (fun i => some (i * size, size)) ((Array.range (len * size)).map fun i => z.cells[i % z.cells.size]!) (parts.map fun x => match x with | (i, x) => (i, ρv x)).toList = some cv.toArray := by
              rw [← hcv, hz0]
              congr 1
              simp
            have hcv0 : len * size = 0 → Instr.fill (fun i => some (i * size, size)) ((Array.range (len * size)).map fun i => (#[] : Array Value)[i % (#[] : Array Value).size]!) (parts.map fun x => match x with | (i, x) => (i, ρv x)).toList = some cv.toArray := by
              intro h0
              rw [← hcv2, h0]
              have e0 : Array.range 0 = #[] := rfl
              simp [e0]
            have hrun : (execOp ρv o).run E.P w = .ok (.value (.slice (some ⟨w.heap.size, 0, none⟩) len len)) (w.alloc (.cells cv.toArray e)) := by
              simp only [execOp, hop, Instr.buildSlice, Sem.run_bind, run_underlying hu, Result.andThen_ok, size_run hsz]
              rw [if_neg (by omega)]
              simp only [Sem.run_pure]
              by_cases h0 : len * size = 0
              · rw [if_pos h0]
                simp only [Sem.run_bind, Sem.run_pure, Result.andThen_ok, hcv0 h0]
                simp [newRow]
              · rw [if_neg h0]
                simp only [Sem.run_bind, Sem.run_pure, Result.andThen_ok, zero_run hz, hcv2]
                simp [newRow]
            rw [hrun]
            split at h
            · rename_i hb
              simp only [Bool.and_eq_true, decide_eq_true_eq] at hb
              cases h
              obtain ⟨i, hi, hsi⟩ := Option.map_eq_some_iff.1 hsz
              obtain ⟨g', h1, h2, h3⟩ := I.newArr (e := e) (n := len) (cap := len) (cs := cs) (cur := cv.toArray) (i := i) (w' := w.alloc (.cells cv.toArray e)) hi rfl
                (by rw [hsi]; simp [hlen]) (Nat.le_refl _) (by unfold maxLen; omega) (by rw [hsi]; simpa using hlen) (by rw [hsi, List.take_of_length_le (by simp; omega)]; exact hr)
              exact ⟨_, _, g', rfl, h1, h2, .asl h3⟩
            · cases h
              obtain ⟨g', h1, h2, h3⟩ := I.newCells (e := e) (cs := cs) (us := cv) (cur := cv.toArray) (fr := (0, 0)) (w' := w.alloc (.cells cv.toArray e)) rfl hr (by simp)
              exact ⟨_, _, g', rfl, h1, h2, h3 len len (Nat.le_refl _)⟩
          · cases h
        · cases h
      · cases h
    · cases h
  · cases h

end
end Go.AI
end
section
namespace Go.AI
open Go

section
variable {E : Env} {g : Ghost} {H : Heap} {w : World} {ρ : Operand → AV} {ρv : Operand → Value} {o : Oper} {res : ARes} {H' : Heap}

theorem rel_ptr {id off : Nat} {p : Value} (r : Rel g (.ptr id off) p) : ∃ b, p = .pointer (some ⟨b, off, none⟩) ∧ g.loc id = some b := by
  cases r with | ptr off h => exact ⟨_, rfl, h⟩
theorem rel_ap {id n off : Nat} {p : Value} (r : Rel g (.ap id n off) p) : ∃ b cap, p = .pointer (some ⟨b, off, none⟩) ∧ g.aloc id n = some (b, cap) := by
  cases r with | ap off h => exact ⟨_, _, rfl, h⟩
theorem rel_ep {cs : List AV} {p : Value} (r : Rel g (.ep cs) p) : ∃ b o us, p = .pointer (some ⟨b, o, none⟩) ∧ RelL g cs us ∧ ∀ (i : Nat) (u : Value), us[i]? = some u → g.st b (o + i) = some u := by
  cases r with | ep hl hr hst => exact ⟨_, _, _, rfl, ⟨hl, hr⟩, hst⟩
theorem rel_v {x p : Value} (r : Rel g (.v x) p) : p = x := by cases r; rfl
theorem rel_sl {n : Nat} {cs : List AV} {p : Value} (r : Rel g (.sl n cs) p) : ∃ a cap b o us, p = .slice a n cap ∧ n ≤ cap ∧ RelL g cs us ∧ (cs ≠ [] → a = some ⟨b, o, none⟩) ∧
    ∀ (i : Nat) (u : Value), us[i]? = some u → g.st b (o + i) = some u := by
  cases r with | sl hn hl hr ha hst => exact ⟨_, _, _, _, _, rfl, hn, ⟨hl, hr⟩, ha, hst⟩
theorem rel_asl {id n : Nat} {p : Value} (r : Rel g (.asl id n) p) : ∃ b cap, p = .slice (some ⟨b, 0, none⟩) n cap ∧ g.aloc id n = some (b, cap) := by
  cases r with | asl h => exact ⟨_, _, rfl, h⟩
theorem rel_bsl {id off n : Nat} {p : Value} (r : Rel g (.bsl id off n) p) : ∃ b cap, p = .slice (some ⟨b, off, none⟩) n cap ∧ g.loc id = some b ∧ n ≤ cap := by
  cases r with | bsl off h hn => exact ⟨_, _, rfl, h, hn⟩
theorem rel_ifc {t : TypeId} {x : AV} {p : Value} (r : Rel g (.ifc t x) p) : ∃ u, p = .iface t u ∧ Rel g x u := by
  cases r with | ifc h => exact ⟨_, rfl, h⟩
theorem rel_agg {cs : List AV} {p : Value} (r : Rel g (.agg cs) p) : ∃ us : List Value, p = .agg us.toArray ∧ RelL g cs us := by
  cases r with | agg hl hr => exact ⟨_, rfl, hl, hr⟩
theorem rel_tup {cs : List AV} {p : Value} (r : Rel g (.tup cs) p) : ∃ us : List Value, p = .tuple us.toArray ∧ RelL g cs us := by
  cases r with | tup hl hr => exact ⟨_, rfl, hl, hr⟩
theorem rel_fn {f : Fn} {a b : List AV} {p : Value} (r : Rel g (.fn f a b) p) : ∃ u1 u2 : List Value, p = .func f u1.toArray u2.toArray ∧ RelL g a u1 ∧ RelL g b u2 := by
  cases r with | fn h1 h2 r1 r2 => exact ⟨_, _, rfl, ⟨h1, r1⟩, ⟨h2, r2⟩⟩
theorem rel_mp {id : Nat} {p : Value} (r : Rel g (.mp id) p) : ∃ b, p = .map (some b) ∧ g.loc id = some b := by
  cases r with | mp h => exact ⟨_, rfl, h⟩
theorem rel_ep_drop {cs : List AV} {b o : Nat} {us : List Value} (hr : RelL g cs us) (hst : ∀ (i : Nat) (u : Value), us[i]? = some u → g.st b (o + i) = some u) (k : Nat) :
    Rel g (.ep (cs.drop k)) (.pointer (some ⟨b, o + k, none⟩)) := by
  have := hr.drop k
  refine .ep this.1 this.2 (fun i u e => ?_)
  rw [List.getElem?_drop] at e
  rw [Nat.add_assoc]
  exact hst _ _ e

theorem ok_move (I : Inv E g H w) (hρ : ∀ x, Rel g (ρ x) (ρv x)) {x : Operand} (hop : o.op = .move x ∨ o.op = .assign x) (h : aop E ρ o H = some (res, H')) : OpOk E g H w H' ((execOp ρv o).run E.P w) res := by
  rcases hop with hop | hop
  all_goals
    simp only [aop, hop] at h
    cases h
    have hr : (execOp ρv o).run E.P w = .ok (.value (ρv x)) w := by simp [execOp, hop]
    rw [hr]
    exact OpOk.here I (hρ x)

theorem ok_pick (I : Inv E g H w) (hρ : ∀ x, Rel g (ρ x) (ρv x)) {c a b : Operand} (hop : o.op = .pick c a b) (h : aop E ρ o H = some (res, H')) : OpOk E g H w H' ((execOp ρv o).run E.P w) res := by
  simp only [aop, hop] at h
  split at h
  · rename_i t hc
    cases h
    have rc := hρ c
    rw [hc] at rc
    have hcv := rel_v rc
    have hr : (execOp ρv o).run E.P w = .ok (.value (if t then ρv a else ρv b)) w := by simp [execOp, hop, hcv, asBool]
    rw [hr]
    refine OpOk.here I ?_
    cases t
    · exact hρ b
    · exact hρ a
  · cases h

theorem ok_nilCheck (I : Inv E g H w) (hρ : ∀ x, Rel g (ρ x) (ρv x)) {x : Operand} (hop : o.op = .nilCheck x) (h : aop E ρ o H = some (res, H')) : OpOk E g H w H' ((execOp ρv o).run E.P w) res := by
  have rx := hρ x
  simp only [aop, hop] at h
  split at h
  · rename_i id off hx
    cases h
    rw [hx] at rx
    obtain ⟨b, hp, hl⟩ := rel_ptr rx
    have hr : (execOp ρv o).run E.P w = .ok (.value (ρv x)) w := by simp [execOp, hop, hp]
    rw [hr]; exact OpOk.here I rx
  · rename_i id n off hx
    cases h
    rw [hx] at rx
    obtain ⟨b, cap, hp, hl⟩ := rel_ap rx
    have hr : (execOp ρv o).run E.P w = .ok (.value (ρv x)) w := by simp [execOp, hop, hp]
    rw [hr]; exact OpOk.here I rx
  · rename_i cs hx
    cases h
    rw [hx] at rx
    obtain ⟨b, off, us, hp, hl⟩ := rel_ep rx
    have hr : (execOp ρv o).run E.P w = .ok (.value (ρv x)) w := by simp [execOp, hop, hp]
    rw [hr]; exact OpOk.here I rx
  · rename_i f a b hx
    cases h
    rw [hx] at rx
    obtain ⟨u1, u2, hp, hl⟩ := rel_fn rx
    have hr : (execOp ρv o).run E.P w = .ok (.value (ρv x)) w := by simp [execOp, hop, hp]
    rw [hr]; exact OpOk.here I rx
  · rename_i t y hx
    cases h
    rw [hx] at rx
    obtain ⟨u, hp, hl⟩ := rel_ifc rx
    have hr : (execOp ρv o).run E.P w = .ok (.value (ρv x)) w := by simp [execOp, hop, hp]
    rw [hr]; exact OpOk.here I rx
  · cases h

theorem ok_fieldAddr (I : Inv E g H w) (hρ : ∀ x, Rel g (ρ x) (ρv x)) {s : TypeId} {x : Operand} {i : Nat} (hop : o.op = .fieldAddr s x i) (h : aop E ρ o H = some (res, H')) : OpOk E g H w H' ((execOp ρv o).run E.P w) res := by
  have rx := hρ x
  simp only [aop, hop] at h
  split at h
  · rename_i fields hu
    split at h
    · rename_i f hf
      split at h
      · rename_i n hn
        have key : ∀ b off, ρv x = .pointer (some ⟨b, off, none⟩) → (execOp ρv o).run E.P w = .ok (.value (.pointer (some ⟨b, off + f.offset, none⟩))) w := by
          intro b off hp
          simp [execOp, hop, hp, Instr.fieldAt, run_underlying hu, hf, Instr.sureAddr, fieldPlace, size_run hn, addr_add]
        split at h
        · rename_i id off hx
          cases h
          rw [hx] at rx
          obtain ⟨b, hp, hl⟩ := rel_ptr rx
          rw [key _ _ hp]
          exact OpOk.here I (.ptr _ hl)
        · rename_i id n off hx
          cases h
          rw [hx] at rx
          obtain ⟨b, cap, hp, hl⟩ := rel_ap rx
          rw [key _ _ hp]
          exact OpOk.here I (.ap _ hl)
        · rename_i cs hx
          cases h
          rw [hx] at rx
          obtain ⟨b, off, us, hp, hr, hst⟩ := rel_ep rx
          rw [key _ _ hp]
          exact OpOk.here I (rel_ep_drop hr hst _)
        · cases h
      · cases h
    · cases h
  · cases h

theorem part_run {P : Program} {t : TypeId} {cells : List AV} {us : List Value} {off : Nat} {x : AV} {g : Ghost} {w : World} (h : aload P t cells off = some x) (hr : RelL g cells us) :
    ∃ v, (part t us.toArray off).run P w = .ok v w ∧ Rel g x v := by
  unfold aload at h
  split at h
  · rename_i n h1 h2
    split at h
    · rename_i hn
      cases h
      have hd := (hr.drop off).take n
      refine ⟨.agg ((us.drop off).take n).toArray, ?_, .agg hd.1 hd.2⟩
      simp [part, isAgg_run h1, size_run h2]
    · cases h
  · rename_i n h1 h2
    obtain ⟨u, hu, hru⟩ := hr.get h
    refine ⟨u, ?_, hru⟩
    simp [part, isAgg_run h1, hu]
  · cases h

theorem ok_field (I : Inv E g H w) (hρ : ∀ x, Rel g (ρ x) (ρv x)) {t : TypeId} {x : Operand} {i : Nat} (hop : o.op = .field t x i) (h : aop E ρ o H = some (res, H')) : OpOk E g H w H' ((execOp ρv o).run E.P w) res := by
  have rx := hρ x
  simp only [aop, hop] at h
  split at h
  · rename_i fields cs hu hx
    split at h
    · rename_i f hf
      obtain ⟨r, hr, he⟩ := Option.map_eq_some_iff.1 h
      cases he
      rw [hx] at rx
      obtain ⟨us, hp, hl⟩ := rel_agg rx
      obtain ⟨v, hv, hrv⟩ := part_run (w := w) hr hl
      have hrun : (execOp ρv o).run E.P w = .ok (.value v) w := by simp [execOp, hop, hp, Instr.field, run_underlying hu, hf, asAgg, hv]
      rw [hrun]; exact OpOk.here I hrv
    · cases h
  · cases h

theorem rel_bsl' {id off n : Nat} {p : Value} (r : Rel g (.bsl id off n) p) : ∃ b cap, p = .slice (some ⟨b, off, none⟩) n cap ∧ g.loc id = some b := by
  cases r with | bsl _ h hn => exact ⟨_, _, rfl, h⟩

theorem ok_indexAddr (I : Inv E g H w) (hρ : ∀ x, Rel g (ρ x) (ρv x)) {t : TypeId} {x ix : Operand} (hop : o.op = .indexAddr t x ix) (h : aop E ρ o H = some (res, H')) : OpOk E g H w H' ((execOp ρv o).run E.P w) res := by
  have rx := hρ x
  have ri := hρ ix
  simp only [aop, hop] at h
  split at h
  · rename_i e k i hu hix
    rw [hix] at ri
    have hi := rel_v ri
    split at h
    · rename_i size hsz
      have hel : E.P.elem t = e := by simp [Program.elem, hu]
      have hu' : E.P.underlying t = some (.slice (E.P.elem t)) := by rw [hel]; exact hu
      split at h
      · rename_i n cs hx
        rw [hx] at rx
        obtain ⟨a, cap, b, off, us, hp, hn, hr, ha, hst⟩ := rel_sl rx
        split at h
        · rename_i hc
          cases h
          have hne : cs ≠ [] := by
            intro e; subst e
            have := hc.2.2
            rw [Nat.succ_mul] at this
            simp at this
          rw [ha hne] at hp
          have hrun : (execOp ρv o).run E.P w = .ok (.value (.pointer (some ⟨b, off + i.toNat * (size + 1), none⟩))) w := by
            have := run_indexAt_slice (P := E.P) (w := w) t ⟨b, off, none⟩ n cap k i hu'
            rw [if_pos ⟨hc.1, hc.2.1⟩, hel] at this
            simp [execOp, hop, hp, hi, this, size_run hsz, addr_add]
          rw [hrun]
          exact OpOk.here I (rel_ep_drop hr hst _)
        · cases h
      · rename_i id n hx
        rw [hx] at rx
        obtain ⟨b, cap, hp, hl⟩ := rel_asl rx
        split at h
        · rename_i hc
          cases h
          have hrun : (execOp ρv o).run E.P w = .ok (.value (.pointer (some ⟨b, 0 + i.toNat * (size + 1), none⟩))) w := by
            have := run_indexAt_slice (P := E.P) (w := w) t ⟨b, 0, none⟩ n cap k i hu'
            rw [if_pos ⟨hc.1, hc.2⟩, hel] at this
            simp [execOp, hop, hp, hi, this, size_run hsz, addr_add]
          rw [hrun, Nat.zero_add]
          exact OpOk.here I (.ap _ hl)
        · cases h
      · rename_i id off n hx
        rw [hx] at rx
        obtain ⟨b, cap, hp, hl⟩ := rel_bsl' rx
        split at h
        · rename_i hc
          cases h
          have hrun : (execOp ρv o).run E.P w = .ok (.value (.pointer (some ⟨b, off + i.toNat * (size + 1), none⟩))) w := by
            have := run_indexAt_slice (P := E.P) (w := w) t ⟨b, off, none⟩ n cap k i hu'
            rw [if_pos ⟨hc.1, hc.2⟩, hel] at this
            simp [execOp, hop, hp, hi, this, size_run hsz, addr_add]
          rw [hrun]
          exact OpOk.here I (.ptr _ hl)
        · cases h
      · cases h
    · cases h
  · rename_i len e k i hu hix
    rw [hix] at ri
    have hi := rel_v ri
    split at h
    · rename_i size hsz
      split at h
      · rename_i hc
        have key : ∀ b off, ρv x = .pointer (some ⟨b, off, none⟩) → (execOp ρv o).run E.P w = .ok (.value (.pointer (some ⟨b, off + i.toNat * size, none⟩))) w := by
          intro b off hp
          simp [execOp, hop, hp, hi, Instr.indexAt, run_underlying hu, asIntOf, Instr.sureAddr, hc, size_run hsz, addr_add]
        split at h
        · rename_i id off hx
          cases h
          rw [hx] at rx
          obtain ⟨b, hp, hl⟩ := rel_ptr rx
          rw [key _ _ hp]
          exact OpOk.here I (.ptr _ hl)
        · rename_i id n off hx
          cases h
          rw [hx] at rx
          obtain ⟨b, cap, hp, hl⟩ := rel_ap rx
          rw [key _ _ hp]
          exact OpOk.here I (.ap _ hl)
        · rename_i cs hx
          cases h
          rw [hx] at rx
          obtain ⟨b, off, us, hp, hr, hst⟩ := rel_ep rx
          rw [key _ _ hp]
          exact OpOk.here I (rel_ep_drop hr hst _)
        · cases h
      · cases h
    · cases h
  · cases h

theorem ok_index (I : Inv E g H w) (hρ : ∀ x, Rel g (ρ x) (ρv x)) {t : TypeId} {x ix : Operand} (hop : o.op = .index t x ix) (h : aop E ρ o H = some (res, H')) : OpOk E g H w H' ((execOp ρv o).run E.P w) res := by
  simp only [aop, hop] at h
  split at h
  · rename_i a i ha hi
    obtain ⟨r, hq, he⟩ := Option.map_eq_some_iff.1 h
    cases he
    refine ok_quiet I hq ?_
    simp [execOp, hop, un_rel ha (hρ x), un_rel hi (hρ ix)]
  · cases h

end
end Go.AI
end
section
namespace Go.AI
open Go

section
variable {E : Env} {g : Ghost} {H : Heap} {w : World} {ρ : Operand → AV} {ρv : Operand → Value} {o : Oper} {res : ARes} {H' : Heap}

theorem rel_cut {n cap size l h : Nat} {cs : List AV} {a : Option Addr} {b off : Nat} {us : List Value} (hr : RelL g cs us) (ha : cs ≠ [] → a = some ⟨b, off, none⟩)
    (hst : ∀ (i : Nat) (u : Value), us[i]? = some u → g.st b (off + i) = some u) (hlh : l ≤ h) (hn : h ≤ n) (hc : n ≤ cap) :
    Rel g (.sl (h - l) ((cs.drop (l * size)).take ((h - l) * size))) (.slice (if cap = l then a else a.map fun x => x.add (l * size)) (h - l) (cap - l)) := by
  have hd := (hr.drop (l * size)).take ((h - l) * size)
  refine .sl (b := b) (o := off + l * size) (by omega) hd.1 hd.2 (fun hne => ?_) (fun i u e => ?_)
  · have hcs : cs ≠ [] := by intro e; subst e; simp at hne
    have hcl : ¬ cap = l := by
      intro e
      have : h - l = 0 := by omega
      rw [this] at hne
      simp at hne
    rw [if_neg hcl, ha hcs]
    simp [addr_add]
  · rw [List.getElem?_take] at e
    split at e
    · rw [List.getElem?_drop] at e
      rw [Nat.add_assoc]
      exact hst _ _ e
    · cases e


theorem bounds_run {P : Program} (b : Bool) (len cap : Nat) (lo hi : Option Value) (l h : Int) (w : World) (hlo : (lo = none ∧ l = 0) ∨ ∃ k, lo = some (.int k l)) (hhi : (hi = none ∧ h = (len : Int)) ∨ ∃ k, hi = some (.int k h))
    (h0 : 0 ≤ l) (h1 : l ≤ h) (h2 : h ≤ cap) : (Instr.sliceBounds b len cap lo hi none).run P w = .ok (l.toNat, h.toNat, cap) w := by
  have eh : (h.toNat : Int) = h := Int.toNat_of_nonneg (by omega)
  have h0h : 0 ≤ h := by omega
  have b1 : ∀ k code, (Instr.sliceBound (.int k h) cap code).run P w = .ok h.toNat w := fun k code => run_sliceBound w k h cap code h0h h2
  have b2 : ∀ k code, (Instr.sliceBound (.int k l) h.toNat code).run P w = .ok l.toNat w := fun k code => run_sliceBound w k l h.toNat code h0 (by omega)
  rcases hlo with ⟨rfl, rfl⟩ | ⟨k, rfl⟩ <;> rcases hhi with ⟨rfl, rfl⟩ | ⟨k', rfl⟩
  · simp [Instr.sliceBounds]
  · simp [Instr.sliceBounds, b1]
  · have b3 : ∀ k code, (Instr.sliceBound (.int k l) len code).run P w = .ok l.toNat w := fun k code => run_sliceBound w k l len code h0 (by omega)
    simp [Instr.sliceBounds, b3]
  · simp [Instr.sliceBounds, b1, b2]

theorem bound_of {hρ : ∀ x, Rel g (ρ x) (ρv x)} {lo : Option Operand} {d : AV} {dk k : IntKind} {dn l : Int} (hd : d = .v (.int dk dn)) (h : (lo.map ρ).getD d = .v (.int k l)) :
    (lo.map ρv = none ∧ l = dn) ∨ ∃ k, lo.map ρv = some (.int k l) := by
  cases lo with
  | none =>
    simp only [Option.map_none, Option.getD_none] at h
    rw [hd] at h
    cases h
    exact .inl ⟨rfl, rfl⟩
  | some x =>
    simp only [Option.map_some, Option.getD_some] at h
    have := hρ x
    rw [h] at this
    exact .inr ⟨k, by simp [rel_v this]⟩

theorem ok_slice (I : Inv E g H w) (hρ : ∀ x, Rel g (ρ x) (ρv x)) {t : TypeId} {x : Operand} {lo hi mx : Option Operand} (hop : o.op = .slice t x lo hi mx) (h : aop E ρ o H = some (res, H')) : OpOk E g H w H' ((execOp ρv o).run E.P w) res := by
  have rx := hρ x
  simp only [aop, hop] at h
  split at h
  · cases h
  · split at h
    · rename_i n cs hx
      rw [hx] at rx
      obtain ⟨a, cap, b, off, us, hp, hn, hr, ha, hst⟩ := rel_sl rx
      split at h
      · rename_i e hu
        split at h
        · rename_i size k l k' hh hsz hl hh'
          split at h
          · rename_i hc
            cases h
            have hb := bounds_run (P := E.P) true n cap (lo.map ρv) (hi.map ρv) l hh w (bound_of (hρ := hρ) rfl hl) (bound_of (hρ := hρ) rfl hh') hc.1 hc.2.1 (by omega)
            have hrun : (execOp ρv o).run E.P w = .ok (.value (.slice (if cap = l.toNat then a else a.map fun x => x.add (l.toNat * size)) (hh.toNat - l.toNat) (cap - l.toNat))) w := by
              simp [execOp, hop, hp, Instr.sliceAt, Instr.slice, run_underlying hu, hb, size_run hsz]
            rw [hrun]
            exact OpOk.here I (rel_cut hr ha hst (by omega) (by omega) hn)
          · cases h
        · cases h
      · cases h
    · rename_i id off hx
      rw [hx] at rx
      obtain ⟨b, hp, hl⟩ := rel_ptr rx
      split at h
      · rename_i len e hu
        split at h
        · rename_i size k l k' hh hsz hl' hh'
          split at h
          · rename_i hc
            cases h
            have hb := bounds_run (P := E.P) false len len (lo.map ρv) (hi.map ρv) l hh w (bound_of (hρ := hρ) rfl hl') (bound_of (hρ := hρ) rfl hh') hc.1 hc.2.1 (by omega)
            have hne : ¬ len = l.toNat := by omega
            have hrun : (execOp ρv o).run E.P w = .ok (.value (.slice (some ⟨b, off + l.toNat * size, none⟩) (hh.toNat - l.toNat) (len - l.toNat))) w := by
              simp [execOp, hop, hp, Instr.sliceAt, run_underlying hu, Instr.sureAddr, hb, size_run hsz, hne, addr_add]
            rw [hrun]
            exact OpOk.here I (.bsl _ hl (by omega))
          · cases h
        · cases h
      · cases h
    · split at h
      · rename_i a ha
        split at h
        · rename_i l hh hl hh'
          obtain ⟨r, hq, he⟩ := Option.map_eq_some_iff.1 h
          cases he
          refine ok_quiet I hq ?_
          have e1 : lo.map ρv = l := by
            cases lo with
            | none => simp at hl; simp [hl]
            | some q =>
              simp only at hl
              obtain ⟨y, hy, rfl⟩ := Option.map_eq_some_iff.1 hl
              simp [un_rel hy (hρ q)]
          have e2 : hi.map ρv = hh := by
            cases hi with
            | none => simp at hh'; simp [hh']
            | some q =>
              simp only at hh'
              obtain ⟨y, hy, rfl⟩ := Option.map_eq_some_iff.1 hh'
              simp [un_rel hy (hρ q)]
          simp [execOp, hop, un_rel ha (hρ x), e1, e2]
        · cases h
      · cases h

theorem ok_typeAssert (I : Inv E g H w) (hρ : ∀ x, Rel g (ρ x) (ρv x)) {x : Operand} {xt t : TypeId} {ok : Bool} (hop : o.op = .typeAssert x xt t ok) (h : aop E ρ o H = some (res, H')) : OpOk E g H w H' ((execOp ρv o).run E.P w) res := by
  have rx := hρ x
  simp only [aop, hop] at h
  split at h
  · cases h
  · cases h
  · rename_i u y hx hni hnn
    obtain ⟨d, hu⟩ : ∃ d, E.P.underlying t = some d := by
      cases e : E.P.underlying t with
      | none => exact (hnn e).elim
      | some d => exact ⟨d, rfl⟩
    rw [hx] at rx
    obtain ⟨z, hp, hr⟩ := rel_ifc rx
    have hnd : ∀ ms, d ≠ .interface ms := fun ms e => by subst e; exact hni _ hu
    split at h
    · rename_i hut
      cases h
      subst hut
      have hrun : (execOp ρv o).run E.P w = .ok (.value (if ok then .tuple #[z, .bool true] else z)) w := by
        cases d <;> first | exact (hnd _ rfl).elim | simp [execOp, hop, hp, Instr.typeAssert, run_underlying hu]
      rw [hrun]
      refine OpOk.here I ?_
      cases ok
      · exact hr
      · exact Rel.tup (us := [z, .bool true]) rfl (RelL.cons hr (RelL.cons (.v _) (.nil g))).2
    · rename_i hut
      split at h
      · rename_i hok
        obtain ⟨zv, hz, he⟩ := Option.map_eq_some_iff.1 h
        cases he
        subst hok
        have hrun : (execOp ρv o).run E.P w = .ok (.value (.tuple #[zv, .bool false])) w := by
          cases d <;> first | exact (hnd _ rfl).elim | simp [execOp, hop, hp, Instr.typeAssert, run_underlying hu, hut, zero_run hz]
        rw [hrun]
        exact OpOk.here I (Rel.tup (us := [zv, .bool false]) rfl (RelL.cons (conv_rel g zv) (RelL.cons (.v _) (.nil g))).2)
      · cases h
  · rename_i hx hni hnn
    obtain ⟨d, hu⟩ : ∃ d, E.P.underlying t = some d := by
      cases e : E.P.underlying t with
      | none => exact (hnn e).elim
      | some d => exact ⟨d, rfl⟩
    rw [hx] at rx
    have hp := rel_v rx
    have hnd : ∀ ms, d ≠ .interface ms := fun ms e => by subst e; exact hni _ hu
    split at h
    · rename_i hok
      obtain ⟨zv, hz, he⟩ := Option.map_eq_some_iff.1 h
      cases he
      subst hok
      have hrun : (execOp ρv o).run E.P w = .ok (.value (.tuple #[zv, .bool false])) w := by
        cases d <;> first | exact (hnd _ rfl).elim | simp [execOp, hop, hp, Instr.typeAssert, run_underlying hu, zero_run hz]
      rw [hrun]
      exact OpOk.here I (Rel.tup (us := [zv, .bool false]) rfl (RelL.cons (conv_rel g zv) (RelL.cons (.v _) (.nil g))).2)
    · cases h
  · cases h

end
end Go.AI
end
section
namespace Go.AI
open Go

section
variable {E : Env} {g : Ghost} {H : Heap} {w : World} {ρ : Operand → AV} {ρv : Operand → Value} {o : Oper} {res : ARes} {H' : Heap}

theorem equalIn_ptr {P : Program} {t e : TypeId} (hu : P.underlying t = some (.pointer e)) (d : Nat) (a b : Option Addr) (h : a = none ∨ b = none) (w : World) :
    (Op.equalIn (d + 1) t (.pointer a) (.pointer b)).run P w = .ok (a.isNone && b.isNone) w := by
  rcases h with rfl | rfl
  · simp [Op.equalIn, run_underlying hu]
  · cases a <;> simp [Op.equalIn, run_underlying hu]
theorem equalIn_self {P : Program} {t e : TypeId} {n : Nat} (hu : P.underlying t = some (.pointer e)) (hs : sizeT P e = some (n + 1)) (d : Nat) (a : Addr) (w : World) :
    (Op.equalIn (d + 1) t (.pointer (some a)) (.pointer (some a))).run P w = .ok true w := by
  simp [Op.equalIn, run_underlying hu, size_run hs, sameAddr]
theorem equalIn_iface {P : Program} {t : TypeId} {ms : Array (String × TypeId)} (hu : P.underlying t = some (.interface ms)) (d : Nat) (u : TypeId) (x : Value) (w : World) :
    (Op.equalIn (d + 1) t (.iface u x) .nilIface).run P w = .ok false w ∧ (Op.equalIn (d + 1) t .nilIface (.iface u x)).run P w = .ok false w := by
  constructor <;> simp [Op.equalIn, run_underlying hu]

theorem eql_run {P : Program} {t : TypeId} {x y : Operand} {a b : Value} {r : Bool} {w : World} (hg : ∀ op, (eqGuard op t x y a b).run P w = .ok () w)
    (hb : ∀ op, op = .eql ∨ op = .neq → binOp op t a b = (match op with | .eql => (do pure (.bool (← Op.equal t a b))) | _ => (do pure (.bool (!(← Op.equal t a b))))))
    (he : (Op.equalIn (9999 + 1) t a b).run P w = .ok r w) :
    (do eqGuard .eql t x y a b; binOp .eql t a b : Sem Value).run P w = .ok (.bool r) w ∧ (do eqGuard .neq t x y a b; binOp .neq t a b : Sem Value).run P w = .ok (.bool !r) w := by
  have he' : (Op.equal t a b).run P w = .ok r w := he
  constructor
  · rw [hb .eql (.inl rfl)]
    simp only [Sem.run_bind, hg, Result.andThen_ok, he', Sem.run_pure]
  · rw [hb .neq (.inr rfl)]
    simp only [Sem.run_bind, hg, Result.andThen_ok, he', Sem.run_pure]

theorem guard_ptr {P : Program} (op : BinOp) (t : TypeId) (x y : Operand) (a b : Option Addr) (w : World) : (eqGuard op t x y (.pointer a) (.pointer b)).run P w = .ok () w := by
  unfold eqGuard
  split <;> simp
theorem guard_iface {P : Program} (op : BinOp) (t : TypeId) (x y : Operand) (u : TypeId) (a : Value) (w : World) : (eqGuard op t x y (.iface u a) .nilIface).run P w = .ok () w ∧ (eqGuard op t x y .nilIface (.iface u a)).run P w = .ok () w := by
  unfold eqGuard
  constructor <;> (split <;> simp)

theorem rel_any_ptr {x : AV} {p : Value} (r : Rel g x p) (h : (∃ i j, x = .ptr i j) ∨ (∃ i j k, x = .ap i j k) ∨ ∃ c, x = .ep c) : ∃ a, p = .pointer (some a) := by
  rcases h with ⟨i, j, rfl⟩ | ⟨i, j, k, rfl⟩ | ⟨c, rfl⟩
  · obtain ⟨b, hp, _⟩ := rel_ptr r; exact ⟨_, hp⟩
  · obtain ⟨b, cap, hp, _⟩ := rel_ap r; exact ⟨_, hp⟩
  · obtain ⟨b, off, us, hp, _⟩ := rel_ep r; exact ⟨_, hp⟩

theorem ptr_nil {P : Program} {t e : TypeId} (hu : P.underlying t = some (.pointer e)) (x y : Operand) (a b : Option Addr) (h : a = none ∨ b = none) (w : World) :
    (do eqGuard .eql t x y (.pointer a) (.pointer b); binOp .eql t (.pointer a) (.pointer b) : Sem Value).run P w = .ok (.bool (a.isNone && b.isNone)) w ∧
    (do eqGuard .neq t x y (.pointer a) (.pointer b); binOp .neq t (.pointer a) (.pointer b) : Sem Value).run P w = .ok (.bool !(a.isNone && b.isNone)) w :=
  eql_run (fun op => guard_ptr op t x y a b w) (fun op ho => by rcases ho with rfl | rfl <;> rfl) (equalIn_ptr hu 9999 a b h w)
theorem ptr_self {P : Program} {t e : TypeId} {n : Nat} (hu : P.underlying t = some (.pointer e)) (hs : sizeT P e = some (n + 1)) (x y : Operand) (a : Addr) (w : World) :
    (do eqGuard .eql t x y (.pointer (some a)) (.pointer (some a)); binOp .eql t (.pointer (some a)) (.pointer (some a)) : Sem Value).run P w = .ok (.bool true) w ∧
    (do eqGuard .neq t x y (.pointer (some a)) (.pointer (some a)); binOp .neq t (.pointer (some a)) (.pointer (some a)) : Sem Value).run P w = .ok (.bool !true) w :=
  eql_run (fun op => guard_ptr op t x y _ _ w) (fun op ho => by rcases ho with rfl | rfl <;> rfl) (equalIn_self hu hs 9999 a w)
theorem iface_nil {P : Program} {t : TypeId} {ms : Array (String × TypeId)} (hu : P.underlying t = some (.interface ms)) (x y : Operand) (u : TypeId) (a : Value) (w : World) :
    (do eqGuard .eql t x y (.iface u a) .nilIface; binOp .eql t (.iface u a) .nilIface : Sem Value).run P w = .ok (.bool false) w ∧
    (do eqGuard .neq t x y (.iface u a) .nilIface; binOp .neq t (.iface u a) .nilIface : Sem Value).run P w = .ok (.bool !false) w :=
  eql_run (fun op => (guard_iface op t x y u a w).1) (fun op ho => by rcases ho with rfl | rfl <;> rfl) (equalIn_iface hu 9999 u a w).1
theorem nil_iface {P : Program} {t : TypeId} {ms : Array (String × TypeId)} (hu : P.underlying t = some (.interface ms)) (x y : Operand) (u : TypeId) (a : Value) (w : World) :
    (do eqGuard .eql t x y .nilIface (.iface u a); binOp .eql t .nilIface (.iface u a) : Sem Value).run P w = .ok (.bool false) w ∧
    (do eqGuard .neq t x y .nilIface (.iface u a); binOp .neq t .nilIface (.iface u a) : Sem Value).run P w = .ok (.bool !false) w :=
  eql_run (fun op => (guard_iface op t x y u a w).2) (fun op ho => by rcases ho with rfl | rfl <;> rfl) (equalIn_iface hu 9999 u a w).2

theorem ok_run (I : Inv E g H w) {s : Sem Value} {v : Value} {x : AV} (hr : (execOp ρv o).run E.P w = (s.run E.P w).andThen fun a w' => .ok (.value a) w') (hs : s.run E.P w = .ok v w) (r : Rel g x v) :
    OpOk E g H w H ((execOp ρv o).run E.P w) (.val x) := by
  rw [hr, hs]
  exact OpOk.here I r

def isPtrA : AV → Bool
  | .ptr .. => true
  | .ap .. => true
  | .ep .. => true
  | _ => false
theorem rel_isPtr {x : AV} {p : Value} (r : Rel g x p) (h : isPtrA x = true) : ∃ a, p = .pointer (some a) := by
  cases r <;> first | exact ⟨_, rfl⟩ | cases h

/-- What a comparison with nil, or of a pointer with itself, comes to. -/
theorem bin_case (I : Inv E g H w) {op : BinOp} {t : TypeId} {x y : Operand} {p q : Value} {u v : AV} {b : Bool} (ru : Rel g u p) (rv : Rel g v q)
    (hex : (execOp ρv o).run E.P w = ((do eqGuard op t x y p q; binOp op t p q : Sem Value).run E.P w).andThen fun a w' => .ok (.value a) w')
    (hc : (isPtrA u = true ∧ v = .v (.pointer none) ∧ b = false ∧ ∃ e, E.P.underlying t = some (.pointer e)) ∨ (u = .v (.pointer none) ∧ isPtrA v = true ∧ b = false ∧ ∃ e, E.P.underlying t = some (.pointer e)) ∨
      ((∃ k z, u = .ifc k z) ∧ v = .v .nilIface ∧ b = false ∧ ∃ ms, E.P.underlying t = some (.interface ms)) ∨ (u = .v .nilIface ∧ (∃ k z, v = .ifc k z) ∧ b = false ∧ ∃ ms, E.P.underlying t = some (.interface ms)) ∨
      ((∃ i j, u = .ptr i j ∧ v = .ptr i j) ∧ b = true ∧ ∃ e n, E.P.underlying t = some (.pointer e) ∧ sizeT E.P e = some (n + 1))) :
    (op = .eql → OpOk E g H w H ((execOp ρv o).run E.P w) (.val (.v (.bool b)))) ∧ (op = .neq → OpOk E g H w H ((execOp ρv o).run E.P w) (.val (.v (.bool !b)))) := by
  have fin : ∀ {op r}, (do eqGuard op t x y p q; binOp op t p q : Sem Value).run E.P w = .ok (.bool r) w →
      (execOp ρv o).run E.P w = ((do eqGuard op t x y p q; binOp op t p q : Sem Value).run E.P w).andThen (fun a w' => .ok (.value a) w') → OpOk E g H w H ((execOp ρv o).run E.P w) (.val (.v (.bool r))) :=
    fun h1 h2 => ok_run I h2 h1 (.v _)
  have key : (do eqGuard .eql t x y p q; binOp .eql t p q : Sem Value).run E.P w = .ok (.bool b) w ∧ (do eqGuard .neq t x y p q; binOp .neq t p q : Sem Value).run E.P w = .ok (.bool !b) w := by
    rcases hc with ⟨h1, rfl, rfl, e, hu⟩ | ⟨rfl, h1, rfl, e, hu⟩ | ⟨⟨k, z, rfl⟩, rfl, rfl, ms, hu⟩ | ⟨rfl, ⟨k, z, rfl⟩, rfl, ms, hu⟩ | ⟨⟨i, j, rfl, rfl⟩, rfl, e, n, hu, hs⟩
    · obtain ⟨a, rfl⟩ := rel_isPtr ru h1
      cases rv
      exact ptr_nil hu x y (some a) none (.inr rfl) w
    · obtain ⟨a, rfl⟩ := rel_isPtr rv h1
      cases ru
      exact ptr_nil hu x y none (some a) (.inl rfl) w
    · obtain ⟨a, rfl, _⟩ := rel_ifc ru
      cases rv
      exact iface_nil hu x y k a w
    · obtain ⟨a, rfl, _⟩ := rel_ifc rv
      cases ru
      exact nil_iface hu x y k a w
    · obtain ⟨b1, rfl, hl1⟩ := rel_ptr ru
      obtain ⟨b2, rfl, hl2⟩ := rel_ptr rv
      rw [hl1] at hl2
      cases hl2
      exact ptr_self hu hs x y _ w
  exact ⟨fun h => by subst h; exact fin key.1 hex, fun h => by subst h; exact fin key.2 hex⟩

theorem ok_binOp (I : Inv E g H w) (hρ : ∀ x, Rel g (ρ x) (ρv x)) {op : BinOp} {t t2 : TypeId} {x y : Operand} (hop : o.op = .binOp op t x y t2) (h : aop E ρ o H = some (res, H')) : OpOk E g H w H' ((execOp ρv o).run E.P w) res := by
  have rx := hρ x
  have ry := hρ y
  have hex : (execOp ρv o).run E.P w = ((do eqGuard op t x y (ρv x) (ρv y); binOp op t (ρv x) (ρv y) : Sem Value).run E.P w).andThen fun a w' => .ok (.value a) w' := by
    simp only [execOp, hop]
    rw [Sem.run_bind]
    rfl
  have B := fun b => bin_case (b := b) I rx ry hex
  simp only [aop, hop] at h
  split at h
  · rename_i a b ha hb
    obtain ⟨r, hq, he⟩ := Option.map_eq_some_iff.1 h
    cases he
    rw [un_rel ha rx, un_rel hb ry] at hex
    exact ok_quiet I hq hex
  · split at h
    iterate 12
      · rename_i hx hy
        split at h
        · rename_i e hu
          cases h
          first
            | exact (B false (.inl ⟨by rw [hx]; rfl, hy, rfl, e, hu⟩)).1 rfl
            | exact (B false (.inl ⟨by rw [hx]; rfl, hy, rfl, e, hu⟩)).2 rfl
            | exact (B false (.inr (.inl ⟨hx, by rw [hy]; rfl, rfl, e, hu⟩))).1 rfl
            | exact (B false (.inr (.inl ⟨hx, by rw [hy]; rfl, rfl, e, hu⟩))).2 rfl
        · cases h
    iterate 2
      · rename_i i j k l hx hy
        split at h
        · rename_i e hu
          split at h
          · rename_i n hs
            split at h
            · rename_i hij
              obtain ⟨rfl, rfl⟩ := hij
              cases h
              first
                | exact (B true (.inr (.inr (.inr (.inr ⟨⟨i, j, hx, hy⟩, rfl, e, n, hu, hs⟩))))).1 rfl
                | exact (B true (.inr (.inr (.inr (.inr ⟨⟨i, j, hx, hy⟩, rfl, e, n, hu, hs⟩))))).2 rfl
            · cases h
          · cases h
        · cases h
    iterate 4
      · rename_i hx hy
        split at h
        · rename_i ms hu
          cases h
          first
            | exact (B false (.inr (.inr (.inl ⟨⟨_, _, hx⟩, hy, rfl, ms, hu⟩)))).1 rfl
            | exact (B false (.inr (.inr (.inl ⟨⟨_, _, hx⟩, hy, rfl, ms, hu⟩)))).2 rfl
            | exact (B false (.inr (.inr (.inr (.inl ⟨hx, ⟨_, _, hy⟩, rfl, ms, hu⟩))))).1 rfl
            | exact (B false (.inr (.inr (.inr (.inl ⟨hx, ⟨_, _, hy⟩, rfl, ms, hu⟩))))).2 rfl
        · cases h
    · cases h

end
end Go.AI
end
section
namespace Go.AI
open Go

section
variable {E : Env} {g : Ghost} {H : Heap} {w : World} {ρ : Operand → AV} {ρv : Operand → Value} {o : Oper} {res : ARes} {H' : Heap}

theorem byteCells_rel : ∀ {cs : List AV} {bs : List UInt8} {us : List Value}, byteCells cs = some bs → RelL g cs us →
    ∃ ns : List Int, us = ns.map (Value.int .u8) ∧ bs = ns.map fun n => UInt8.ofNat n.toNat
  | [], bs, us, h, r => by
    simp only [byteCells, Option.some.injEq] at h
    subst h
    exact ⟨[], by rw [r.nil_of]; rfl, rfl⟩
  | x :: cs, bs, us, h, r => by
    obtain ⟨u, us', rfl, r1, r2⟩ := r.cases
    unfold byteCells at h
    split at h
    · rename_i h1; cases h1
    · rename_i n r' h1
      cases h1
      split at h
      · obtain ⟨bs', hb, rfl⟩ := Option.map_eq_some_iff.1 h
        obtain ⟨ns, rfl, rfl⟩ := byteCells_rel hb r2
        cases r1
        exact ⟨n :: ns, rfl, rfl⟩
      · cases h
    · cases h

theorem byteCells_int : ∀ {cs : List AV} {bs : List UInt8} {us : List Value}, byteCells cs = some bs → RelL g cs us → us = bs.map fun b => Value.int .u8 b.toNat
  | [], bs, us, h, r => by
    simp only [byteCells, Option.some.injEq] at h
    subst h
    rw [r.nil_of]; rfl
  | x :: cs, bs, us, h, r => by
    obtain ⟨u, us', rfl, r1, r2⟩ := r.cases
    unfold byteCells at h
    split at h
    · rename_i h1; cases h1
    · rename_i n r' h1
      cases h1
      split at h
      · rename_i hn
        obtain ⟨bs', hb, rfl⟩ := Option.map_eq_some_iff.1 h
        rw [byteCells_int hb r2, List.map_cons]
        cases r1
        congr 2
        obtain ⟨k, rfl⟩ := Int.eq_ofNat_of_zero_le hn.1
        simp
        omega
      · cases h
    · cases h

theorem foldl_push_ints : ∀ (ns : List Int) (r : ByteArray), ns.foldl (fun r n => r.push (UInt8.ofNat n.toNat)) r = ⟨r.data ++ (ns.map fun n => UInt8.ofNat n.toNat).toArray⟩
  | [], r => by simp
  | n :: ns, r => by
    rw [List.foldl_cons, foldl_push_ints ns]
    simp [ByteArray.push]

/-- The bytes of a row, as a string. -/
theorem bytes_run {P : Program} {s d e : TypeId} {b off cap : Nat} {us : List Value} {ns : List Int} (hs : P.underlying s = some (.slice e)) (he : P.underlying e = some (.int .u8)) (hd : P.underlying d = some .string)
    (hu : us = ns.map (Value.int .u8)) (hc : ∀ (i : Nat) (u : Value), us[i]? = some u → w.cell? ⟨b, off + i, none⟩ = some u) :
    (convert s d (.slice (some ⟨b, off, none⟩) us.length cap)).run P w = .ok (.string ⟨(ns.map fun n => UInt8.ofNat n.toNat).toArray⟩) w := by
  rw [run_convert_bytes_string w s d e _ _ _ hs he hd]
  have hl := loadCells_run (P := P) w b off us hc
  have hl' : (loadCells ⟨b, off, none⟩ us.length).run P w = .ok (ns.map (Value.int .u8)).toArray w := by rw [hl, hu]
  rw [run_bytesToString w _ us.length cap ns hl', foldl_push_ints]
  have he0 : ByteArray.empty.data = #[] := rfl
  rw [he0]
  simp

theorem bytes_none {P : Program} {s d e : TypeId} (hs : P.underlying s = some (.slice e)) (he : P.underlying e = some (.int .u8)) (hd : P.underlying d = some .string) (a : Option Addr) (cap : Nat) :
    (convert s d (.slice a 0 cap)).run P w = .ok (.string ⟨#[]⟩) w := by
  rw [run_convert_bytes_string w s d e _ _ _ hs he hd]
  cases a with
  | none => simp [Conv.bytesToString]; rfl
  | some a => simp [Conv.bytesToString, loadCells, loadCellsFrom]; rfl

/-- A row is marked: it stays as it is. -/
theorem Inv.frz (I : Inv E g H w) {id n b cap k off : Nat} {e : TypeId} {fz : Bool} {cs : List AV} (hH : H[id]? = some (.arr e n fz cs)) (hl : g.aloc id n = some (b, cap)) (hk : k ≠ 0) :
    Inv E g (H.set id (.arr e n true cs)) (w.freeze ⟨b, off, none⟩ k) ∧ Step g H w g (H.set id (.arr e n true cs)) (w.freeze ⟨b, off, none⟩ k) := by
  obtain ⟨b', cap', us, i, cur, fr, hb', hi, hh, hfr, hus, hul, hn, hmax, hcs, hr⟩ := I.objs _ _ hH
  rw [hl] at hb'; cases hb'
  have hid : id < H.length := (List.getElem?_eq_some_iff.1 hH).1
  have hbl : blk g id (.arr e n fz cs) = some b := by simp [blk, hl]
  have hnew : ∃ fr', (w.freeze ⟨b, off, none⟩ k).heap[b]? = some (.cells cur e fr') := by
    unfold World.freeze
    rw [if_neg hk]
    obtain ⟨lo, hi⟩ := fr
    refine ⟨if lo == hi then (off, off + k) else (min lo off, max hi (off + k)), ?_⟩
    simp [Array.getElem?_modify, hh]
  obtain ⟨fr', hnew⟩ := hnew
  have hsz : (w.freeze ⟨b, off, none⟩ k).heap.size = w.heap.size := by
    unfold World.freeze; rw [if_neg hk]; simp
  have := I.turn (g' := g) (w' := w.freeze ⟨b, off, none⟩ k) id (.arr e n true cs) (Nat.le_of_lt hid) (.refl g) (by rw [hsz]; exact Nat.le_refl _)
    (fun c hc hn => by
      have hne : b ≠ c := fun e => by subst e; exact hn _ hH hbl
      unfold World.freeze; rw [if_neg hk]
      simp [Array.getElem?_modify, hne])
    ⟨b, cap, us, i, cur, fr', hl, ‹_›, hnew, (fun h => nomatch h), hus, hul, hn, hmax, hcs, hr⟩
    (fun c hc => .inr ⟨_, hH, hc⟩) (fun c o u e => .inl e) (fun j c e => .inl e) (fun j m p e => .inl e) (fun _ _ _ _ heq k p hk => by cases heq; exact I.amax _ _ _ _ _ hH k p hk) (by unfold World.freeze; rw [if_neg hk]; exact ⟨rfl, rfl⟩)
  simpa [setAt, hid] using this

theorem seenAt_plain {P : Program} {b off : Nat} {us : Array Value} {t : TypeId} {fr : Nat × Nat} (hh : w.heap[b]? = some (.cells us t fr)) : (Conv.seenAt ⟨b, off, none⟩).run P w = .ok ⟨b, off, none⟩ w := by
  have hs : w.shape? b = some (t, us.size) := by unfold World.shape?; rw [hh]
  simp [Conv.seenAt, viewAt, hs]

theorem ok_conv (_I : Inv E g H w) {s d : TypeId} {x : Operand} (hop : o.op = .convert s d x) {v : Value} {w' : World} (hr : (convert s d (ρv x)).run E.P w = .ok v w') : (execOp ρv o).run E.P w = .ok (.value v) w' := by
  simp [execOp, hop, hr]

theorem ok_convert (I : Inv E g H w) (hρ : ∀ x, Rel g (ρ x) (ρv x)) {s d : TypeId} {x : Operand} (hop : o.op = .convert s d x) (h : aop E ρ o H = some (res, H')) : OpOk E g H w H' ((execOp ρv o).run E.P w) res := by
  have rx := hρ x
  simp only [aop, hop] at h
  split at h
  · rename_i e b hs hd hx
    rw [hx] at rx
    have hp := rel_v rx
    split at h
    · rename_i he
      cases h
      have hr := run_bytes_of_string (P := E.P) w s d e b hs hd he
      rw [← hp] at hr
      rw [ok_conv I hop hr]
      have hcap : b.size ≤ grownCap w b.size 0 e := by
        unfold grownCap Question.cut
        exact Nat.le_add_right _ _
      obtain ⟨g', h1, h2, h3⟩ := I.newCells (e := e) (cs := bytesAV b) (us := b.data.toList.map fun c => Value.int .u8 c.toNat) (cur := bytesRow b (grownCap w b.size 0 e))
        (fr := ((bytesRow b (grownCap w b.size 0 e)).size, (bytesRow b (grownCap w b.size 0 e)).size + 1))
        (w' := w.drew.alloc (.cells (bytesRow b (grownCap w b.size 0 e)) e ((bytesRow b (grownCap w b.size 0 e)).size, (bytesRow b (grownCap w b.size 0 e)).size + 1))) rfl
        (by
          unfold bytesAV
          have := RelL.map_v g (b.data.toList.map fun c => Value.int .u8 c.toNat)
          simpa [Function.comp_def] using this)
        (by
          intro i u hu
          have hi : i < b.data.toList.length := by have := (List.getElem?_eq_some_iff.1 hu).1; simpa using this
          unfold bytesRow
          rw [Array.getElem?_append_left (by simpa using hi)]
          rw [← hu]
          simp)
      exact ⟨_, _, g', rfl, h1, h2, h3 _ _ hcap⟩
    · cases h
  · rename_i e id n hs hd hx
    rw [hx] at rx
    obtain ⟨b, cap, hp, hl⟩ := rel_asl rx
    split at h
    · rename_i e' n' fz cs he hH
      split at h
      · rename_i hc
        obtain ⟨hsd, hn⟩ := hc
        subst hn
        subst hsd
        cases h
        obtain ⟨b', cap', us, i, cur, fr, hb', hi, hh, hfr, hus, hul, hn, hmax, hcs, hr⟩ := I.objs _ _ hH
        rw [hl] at hb'; cases hb'
        obtain ⟨h1, h2⟩ := I.frz (k := 1) (off := cur.size) hH hl (by decide)
        have hsh : w.shape? b = some (e', cur.size) := by unfold World.shape?; rw [hh]
        have hrun : (convert s s (ρv x)).run E.P w = .ok (ρv x) (w.freeze ⟨b, cur.size, none⟩ 1) := by
          rw [hp]
          have hdd := hs.symm.trans hd
          cases hdd
          simp [convert, run_underlying hs, run_underlying he, markStringish, hsh]
        rw [ok_conv I hop hrun, hp]
        exact ⟨_, _, g, rfl, h1, h2, .asl hl⟩
      · cases h
    · cases h
  · rename_i e n cs hs hd hx
    rw [hx] at rx
    obtain ⟨a, cap, b, off, us, hp, hn, hr, ha, hst⟩ := rel_sl rx
    split at h
    · rename_i bs he hb
      split at h
      · rename_i hlen
        cases h
        obtain ⟨ns, hus, rfl⟩ := byteCells_rel hb hr
        have hul : us.length = n := by rw [hus]; simpa using hlen
        by_cases hcs : cs = []
        · have hu0 : us = [] := by subst hcs; exact hr.nil_of
          have hn0 : n = 0 := by rw [← hul, hu0]; rfl
          have hns : ns = [] := by rw [hu0] at hus; simpa using hus.symm
          subst hn0
          subst hns
          have := bytes_none (w := w) hs he hd a cap
          rw [← hp] at this
          rw [ok_conv I hop this]
          exact OpOk.here I (.v _)
        · rw [ha hcs] at hp
          have := bytes_run (w := w) (cap := cap) (off := off) (b := b) hs he hd hus (fun i u e => I.st _ _ _ (hst i u e))
          rw [hul, ← hp] at this
          rw [ok_conv I hop this]
          exact OpOk.here I (.v _)
      · cases h
    · cases h
  · rename_i e id off n hs hd hx
    rw [hx] at rx
    obtain ⟨b, cap, hp, hl, hn⟩ := rel_bsl rx
    split at h
    · rename_i t cs he hH
      split at h
      · rename_i hle
        split at h
        · rename_i bs hb
          split at h
          · rename_i hlen
            cases h
            obtain ⟨b', us, hb', hh, hr⟩ := I.objs _ _ hH
            rw [hl] at hb'; cases hb'
            have hd2 := (hr.drop off).take n
            obtain ⟨ns, hus, rfl⟩ := byteCells_rel hb hd2
            have hul : ((us.toList.drop off).take n).length = n := by rw [hus]; simpa using hlen
            have := bytes_run (w := w) (cap := cap) (off := off) (b := b) hs he hd hus (fun i u e => by
              rw [List.getElem?_take] at e
              split at e
              · rw [List.getElem?_drop] at e
                have := cells_ok hh _ _ e
                rwa [Nat.zero_add] at this
              · cases e)
            rw [hul, ← hp] at this
            rw [ok_conv I hop this]
            exact OpOk.here I (.v _)
          · cases h
        · cases h
      · cases h
    · cases h
  · rename_i e id n hs hd hx
    rw [hx] at rx
    obtain ⟨b, cap, hp, hl⟩ := rel_asl rx
    split at h
    · rename_i e' n' fz cs he hH
      split at h
      · rename_i hn; subst hn
        split at h
        · rename_i bs hb
          split at h
          · rename_i hlen
            cases h
            obtain ⟨b', cap', us, i, cur, fr, hb', hi, hh, hfr, hus', hul', hn, hmax, hcs, hr⟩ := I.objs _ _ hH
            rw [hl] at hb'; cases hb'
            obtain ⟨ns, hus, rfl⟩ := byteCells_rel hb hr
            have hul : us.length = n' := by rw [hus]; simpa using hlen
            have := bytes_run (w := w) (cap := cap) (off := 0) (b := b) hs he hd hus (fun i u e => cells_ok hh i u (by
              rw [← hus', List.getElem?_take] at e
              split at e
              · exact e
              · cases e))
            rw [hul, ← hp] at this
            rw [ok_conv I hop this]
            exact OpOk.here I (.v _)
          · cases h
        · cases h
      · cases h
    · cases h
  · rename_i t id off hs hd hx
    rw [hx] at rx
    obtain ⟨b, hp, hl⟩ := rel_ptr rx
    split at h
    · rename_i k t' cs hsz hH
      split at h
      · rename_i hlt
        cases h
        obtain ⟨b', us, hb', hh, hr⟩ := I.objs _ _ hH
        rw [hl] at hb'; cases hb'
        have hs2 : w.shape? b = some (t', us.size) := by unfold World.shape?; rw [hh]
        have hlen : us.size = cs.length := by rw [hr.1]; simp
        have hrun : (convert s d (ρv x)).run E.P w = .ok (ρv x) w := by
          rw [hp]
          have hoff : ¬ (us.size ≤ off) := by omega
          simp [convert, run_underlying hs, run_underlying hd, Conv.unsafePointer, seenAt_plain hh, cellsIn, hs2, size_run hsz, hoff]
        rw [ok_conv I hop hrun, hp]
        exact OpOk.here I (.ptr off hl)
      · cases h
    · cases h
  · rename_i u id off hs hd hx
    rw [hx] at rx
    obtain ⟨b, hp, hl⟩ := rel_ptr rx
    split at h
    · rename_i k t' cs hsz hH
      split at h
      · rename_i hlies
        cases h
        obtain ⟨b', us, hb', hh, hr⟩ := I.objs _ _ hH
        rw [hl] at hb'; cases hb'
        have hs2 : w.shape? b = some (t', us.size) := by unfold World.shape?; rw [hh]
        have hlen : us.size = cs.length := by rw [hr.1]; simp
        have hrun : (convert s d (ρv x)).run E.P w = .ok (ρv x) w := by
          rw [hp]
          rw [← hlen] at hlies
          simp [convert, run_underlying hs, run_underlying hd, Conv.unsafePointer, seenAt_plain hh, variablesAt, hs2, size_run hsz, hlies]
        rw [ok_conv I hop hrun, hp]
        exact OpOk.here I (.ptr off hl)
      · cases h
    · cases h
  · split at h
    · rename_i a ha
      obtain ⟨r, hq, he⟩ := Option.map_eq_some_iff.1 h
      cases he
      refine ok_quiet I hq ?_
      simp [execOp, hop, un_rel ha rx]
    · cases h

end
end Go.AI
end
section
namespace Go.AI
open Go

section
variable {E : Env} {g : Ghost} {H : Heap} {w : World} {ρ : Operand → AV} {ρv : Operand → Value} {o : Oper} {res : ARes} {H' : Heap}

theorem keyEq_same {kd : TypeDesc} {k x : Value} {b : Bool} (hk : keyKind kd k = true) (h : keyEq k x = some b) : Instr.sameNow kd k x = some b := by
  unfold keyKind at hk
  split at hk
  · cases x <;> first | exact h | cases h
  · cases x <;> first | exact h | cases h
  · cases x <;> first | exact h | cases h
  · cases hk

theorem keyEq_true {k x : Value} (h : keyEq k x = some true) : x = k := by
  unfold keyEq at h
  split at h
  · split at h
    · rename_i hk; subst hk
      simp only [Option.some.injEq, beq_iff_eq] at h; rw [h]
    · cases h
  · simp only [Option.some.injEq] at h
    rw [(Go.MapKept.bytes_beq _ _).1 h]
  · simp only [Option.some.injEq, beq_iff_eq] at h; rw [h]
  · cases h

theorem find_rel {kd : TypeDesc} {k : Value} (hk : keyKind kd k = true) : ∀ {es : List (Value × AV)} {ents : List MapEntry} {i : Nat} {r : Option (Nat × AV)}, findKeyA k es i = some r → MapRel g es ents →
    match r with
    | none => Instr.findNow kd k ents i = some none
    | some (j, y) => ∃ u x', Instr.findNow kd k ents i = some (some (j, u)) ∧ Rel g y u ∧ i ≤ j ∧ es[j - i]? = some (k, x')
  | [], ents, i, r, h, m => by
    simp only [findKeyA, Option.some.injEq] at h
    subst h
    have : ents = [] := by have := m.1; simpa using this.symm
    subst this
    rfl
  | e :: es, ents, i, r, h, m => by
    cases ents with
    | nil => have := m.1; simp at this
    | cons q ents =>
      have hm := m.2 0 e.1 e.2 q rfl rfl
      have m' : MapRel g es ents := ⟨by simpa using m.1, fun j k x p e1 e2 => m.2 (j + 1) k x p (by simpa using e1) (by simpa using e2)⟩
      unfold findKeyA at h
      split at h
      · rename_i he
        cases h
        have := keyEq_true he
        refine ⟨q.val, e.2, ?_, hm.2, Nat.le_refl _, ?_⟩
        · unfold Instr.findNow
          rw [hm.1, keyEq_same hk he]
        · rw [← this]; simp
      · rename_i he
        have ih := find_rel hk h m'
        have hq : Instr.findNow kd k (q :: ents) i = Instr.findNow kd k ents (i + 1) := by
          conv => lhs; unfold Instr.findNow
          rw [hm.1, keyEq_same hk he]
        rw [hq]
        cases r with
        | none => exact ih
        | some p =>
          obtain ⟨u, x', h1, h2, h3, h4⟩ := ih
          refine ⟨u, x', h1, h2, by omega, ?_⟩
          have : p.1 - i = (p.1 - (i + 1)) + 1 := by omega
          rw [this]; simpa using h4
      · cases h

theorem checkKey_run {P : Program} {kt : TypeId} {kd : TypeDesc} {k : Value} (hu : P.underlying kt = some kd) (hk : keyKind kd k = true) (b : Bool) (n : Nat) (w : World) :
    (Instr.checkKey b (n + 1) kt k).run P w = .ok () w := by
  unfold keyKind at hk
  split at hk
  · simp [Instr.checkKey, run_underlying hu]
  · simp [Instr.checkKey, run_underlying hu]
  · simp [Instr.checkKey, run_underlying hu]
  · cases hk

theorem rel_map_es (I : Inv E g H w) {m : AV} {p : Value} {es : List (Value × AV)} (h : (match m with | .mp id => (match H[id]? with | some (.map es) => some es | _ => none) | .v (.map none) => some [] | _ => none) = some es) (r : Rel g m p) :
    ∃ ents : Array MapEntry, MapRel g es ents.toList ∧ ((p = .map none ∧ ents = #[]) ∨ ∃ b clock, p = .map (some b) ∧ w.heap[b]? = some (.map ents clock)) := by
  split at h
  · rename_i id
    obtain ⟨b, rfl, hl⟩ := rel_mp r
    split at h
    · rename_i es' hH
      cases h
      obtain ⟨b', ents, clock, hb, hh, hm⟩ := I.objs _ _ hH
      rw [hl] at hb; cases hb
      exact ⟨ents, hm, .inr ⟨b, clock, rfl, hh⟩⟩
    · cases h
  · cases h
    have := rel_v r
    exact ⟨#[], ⟨rfl, fun i k x m e => by simp at e⟩, .inl ⟨this, rfl⟩⟩
  · cases h

theorem ok_lookup (I : Inv E g H w) (hρ : ∀ x, Rel g (ρ x) (ρv x)) {t : TypeId} {m k : Operand} {ok : Bool} (hop : o.op = .lookup t m k ok) (h : aop E ρ o H = some (res, H')) : OpOk E g H w H' ((execOp ρv o).run E.P w) res := by
  simp only [aop, hop] at h
  split at h
  · rename_i kt e key ht hkey
    have ek := un_rel hkey (hρ k)
    split at h
    · rename_i kd z hkd hz
      split at h
      · rename_i hkk
        split at h
        · rename_i es hes
          obtain ⟨ents, hm, hp⟩ := rel_map_es I hes (hρ m)
          have hck : ∀ b, (Instr.checkKey b 10000 kt key).run E.P w = .ok () w := fun b => checkKey_run (n := 9999) hkd hkk b w
          have hrun : ∀ (u : Value) (c : Bool) , (match Instr.findNow kd key ents.toList 0 with | some (some (_, v)) => v = u ∧ c = true | some none => u = z ∧ c = false | none => False) →
              (execOp ρv o).run E.P w = .ok (.value (if ok then .tuple #[u, .bool c] else u)) w := by
            intro u c hf
            rcases hp with ⟨hp, rfl⟩ | ⟨b, clock, hp, hh⟩
            · have hf' : u = z ∧ c = false := hf
              obtain ⟨rfl, rfl⟩ := hf'
              simp [execOp, hop, Instr.lookup, run_underlying ht, run_underlying hkd, hp, ek, hck, Instr.findKey, Instr.findNow, zero_run hz]
            · cases hfn : Instr.findNow kd key ents.toList 0 with
              | none => rw [hfn] at hf; exact hf.elim
              | some q =>
                rw [hfn] at hf
                cases q with
                | none =>
                  obtain ⟨rfl, rfl⟩ : u = z ∧ c = false := hf
                  simp [execOp, hop, Instr.lookup, run_underlying ht, run_underlying hkd, hp, ek, hck, Instr.findKey, hfn, zero_run hz, getObj, Sem.run, hh]
                | some q =>
                  obtain ⟨rfl, rfl⟩ : q.2 = u ∧ c = true := hf
                  simp [execOp, hop, Instr.lookup, run_underlying ht, run_underlying hkd, hp, ek, hck, Instr.findKey, hfn, getObj, Sem.run, hh]
          split at h
          · rename_i j y hf
            cases h
            obtain ⟨u, x', h1, h2, -, -⟩ := find_rel hkk hf hm
            rw [hrun u true (by rw [h1]; exact ⟨rfl, rfl⟩)]
            refine OpOk.here I ?_
            cases ok with
            | true =>
              have := RelL.cons h2 (RelL.cons (Rel.v (g := g) (.bool true)) (RelL.nil g))
              exact .tup this.1 this.2
            | false => exact h2
          · rename_i hf
            cases h
            have h1 := find_rel hkk hf hm
            rw [hrun z false (by rw [h1]; exact ⟨rfl, rfl⟩)]
            refine OpOk.here I ?_
            cases ok with
            | true =>
              have := RelL.cons (conv_rel g z) (RelL.cons (Rel.v (g := g) (.bool false)) (RelL.nil g))
              exact .tup this.1 this.2
            | false => exact conv_rel g z
          · cases h
        · cases h
      · cases h
    · cases h
  · cases h

theorem sameBits_key {kd : TypeDesc} {k : Value} (hk : keyKind kd k = true) (n : Nat) : Instr.sameBits n k k = true := by
  unfold keyKind at hk
  split at hk
  · cases n <;> simp [Instr.sameBits]
  · cases n <;> simp [Instr.sameBits, Go.MapKept.bytes_beq]
  · cases n <;> simp [Instr.sameBits]
  · cases hk

/-- A map is written. -/
theorem Inv.setMap (I : Inv E g H w) {id b : Nat} {es es' : List (Value × AV)} {ents ents' : Array MapEntry} {clock clock' : Nat} {w' : World} (hH : H[id]? = some (.map es)) (hl : g.loc id = some b)
    (hh : w.heap[b]? = some (.map ents clock)) (hm : MapRel g es' ents'.toList) (hw : w'.heap = w.heap.setIfInBounds b (.map ents' clock')) (hos : w'.os = w.os ∧ w'.output = w.output := by first | exact ⟨rfl, rfl⟩ | (simp [*]; done)) :
    Inv E g (H.set id (.map es')) w' ∧ Step g H w g (H.set id (.map es')) w' := by
  have hid : id < H.length := (List.getElem?_eq_some_iff.1 hH).1
  have hb := lt_of_heap hh
  have := I.turn (g' := g) (w' := w') id (.map es') (Nat.le_of_lt hid) (.refl g) (by rw [hw]; simp)
    (fun c hc hn => by
      have hne : b ≠ c := fun e => by subst e; exact hn _ hH hl
      rw [hw, Array.getElem?_setIfInBounds_ne hne])
    ⟨b, ents', clock', hl, by rw [hw]; simp [hb], hm⟩
    (fun c hc => .inr ⟨_, hH, hc⟩) (fun c o u e => .inl e) (fun j c e => .inl e) (fun j m p e => .inl e)
  simpa [setAt, hid] using this

theorem ok_mapUpdate (I : Inv E g H w) (hρ : ∀ x, Rel g (ρ x) (ρv x)) {t : TypeId} {m k x : Operand} (hop : o.op = .mapUpdate t m k x) (h : aop E ρ o H = some (res, H')) : OpOk E g H w H' ((execOp ρv o).run E.P w) res := by
  simp only [aop, hop] at h
  split at h
  · rename_i kt e key id ht hkey hm'
    have ek := un_rel hkey (hρ k)
    have rm := hρ m
    rw [hm'] at rm
    obtain ⟨b, hp, hl⟩ := rel_mp rm
    split at h
    · rename_i kd es hkd hH
      obtain ⟨b', ents, clock, hb, hh, hm⟩ := I.objs _ _ hH
      rw [hl] at hb; cases hb
      split at h
      · rename_i hkk
        have hck : ∀ b, (Instr.checkKey b 10000 kt key).run E.P w = .ok () w := fun b => checkKey_run (n := 9999) hkd hkk b w
        split at h
        · rename_i i y hf
          cases h
          obtain ⟨u, x', h1, h2, -, h4⟩ := find_rel hkk hf hm
          simp only [Nat.sub_zero] at h4
          have hi : i < es.length := (List.getElem?_eq_some_iff.1 h4).1
          have hi' : i < ents.size := by have := hm.1; simp at this; omega
          have hki : ents[i].key = key := by
            have := hm.2 i key x' ents[i] h4 (by simp [hi'])
            exact this.1
          have hm2 : MapRel g (es.set i (key, ρ x)) (ents.modify i fun e => { e with key := key, val := ρv x }).toList := by
            refine ⟨by simpa using hm.1, fun j q y p e1 e2 => ?_⟩
            simp only [Array.getElem?_toList, Array.getElem?_modify] at e2
            by_cases hij : i = j
            · subst hij
              rw [List.getElem?_set_self hi] at e1
              cases e1
              rw [if_pos rfl, Array.getElem?_eq_getElem hi'] at e2
              cases e2
              exact ⟨rfl, hρ x⟩
            · rw [List.getElem?_set_ne hij] at e1
              rw [if_neg hij] at e2
              exact hm.2 j q y p e1 (by simpa using e2)
          obtain ⟨i1, i2⟩ := I.setMap (w' := { w with heap := w.heap.setIfInBounds b (.map (ents.modify i fun e => { e with key := key, val := ρv x }) clock) }) (clock' := clock) hH hl hh hm2 rfl
          refine ⟨_, g, ?_, i1, i2⟩
          simp [execOp, hop, Instr.mapUpdate, run_underlying ht, run_underlying hkd, hp, ek, hck, Instr.findKey, h1, getObj, setObj, Sem.run, hh, hi', hki, Instr.keyThatStays, sameBits_key hkk]
        · rename_i hf
          cases h
          have h1 := find_rel hkk hf hm
          have hm2 : MapRel g (es ++ [(key, ρ x)]) (ents.push { key := key, val := ρv x, born := clock }).toList := by
            have hlen := hm.1
            refine ⟨by simpa using hm.1, fun j q y p e1 e2 => ?_⟩
            rcases Nat.lt_trichotomy j es.length with hj | hj | hj
            · rw [List.getElem?_append_left hj] at e1
              rw [Array.toList_push, List.getElem?_append_left (by omega)] at e2
              exact hm.2 j q y p e1 e2
            · subst hj
              rw [Array.toList_push, hlen] at e2
              simp at e1 e2
              obtain ⟨rfl, rfl⟩ := e1
              subst e2
              exact ⟨rfl, hρ x⟩
            · rw [List.getElem?_eq_none (by simp; omega)] at e1; cases e1
          obtain ⟨i1, i2⟩ := I.setMap (w' := { w with heap := w.heap.setIfInBounds b (.map (ents.push { key := key, val := ρv x, born := clock }) (clock + 1)) }) (clock' := clock + 1) hH hl hh hm2 rfl
          refine ⟨_, g, ?_, i1, i2⟩
          simp [execOp, hop, Instr.mapUpdate, run_underlying ht, run_underlying hkd, hp, ek, hck, Instr.findKey, h1, getObj, setObj, Sem.run, hh]
        · cases h
      · cases h
    · cases h
  · cases h

theorem repeatV_add (z : List Value) (m n : Nat) : repeatV z (m + n) = repeatV z m ++ repeatV z n := by
  induction m with
  | zero => simp [repeatV]
  | succ m ih => rw [Nat.succ_add]; simp only [repeatV]; rw [ih, List.append_assoc]

theorem repeatV_len (z : Value) (n : Nat) : (repeatV z.cells.toList n).length = n * z.cells.size := by rw [repeatV_length]; simp

theorem i64_wrap {l : Int} (h0 : 0 ≤ l) (h1 : l ≤ 2 ^ 47) : IntKind.i64.wrap l = l := by
  rw [IntKind.wrap_i64]; omega

theorem ok_makeSlice (I : Inv E g H w) (hρ : ∀ x, Rel g (ρ x) (ρv x)) {t : TypeId} {l c : Operand} (hop : o.op = .makeSlice t l c) (h : aop E ρ o H = some (res, H')) : OpOk E g H w H' ((execOp ρv o).run E.P w) res := by
  simp only [aop, hop] at h
  split at h
  · rename_i e ln cn ht hl hc
    have el := un_rel hl (hρ l)
    have ec := un_rel hc (hρ c)
    split at h
    · rename_i i hi
      split at h
      · rename_i zs hzs
        split at h
        · rename_i hcond
          obtain ⟨h0, hlc, hby, hc47, hzl⟩ := hcond
          cases h
          obtain ⟨z, hz, hcz⟩ := Option.bind_eq_some_iff.1 hzs
          have rz := cells_rel hcz (conv_rel g z)
          have hzT : zeroT E.P e = some z := by simp [zeroT, hi, hz]
          have hsz : sizeT E.P e = some i.size := by simp [sizeT, hi]
          have hzsz : z.cells.size = i.size := by
            have := rz.1; rw [hzl] at this; simpa using this.symm
          obtain ⟨ln', rfl⟩ := Int.eq_ofNat_of_zero_le h0
          obtain ⟨cn', rfl⟩ := Int.eq_ofNat_of_zero_le (Int.le_trans h0 hlc)
          have w1 := i64_wrap h0 (by omega)
          have w2 := i64_wrap (Int.le_trans h0 hlc) hc47
          have hlc' : ln' ≤ cn' := by omega
          have hcur : ∃ cur : Array Value, cur.toList = repeatV z.cells.toList cn' ∧
              (execOp ρv o).run E.P w = .ok (.value (.slice (some ⟨w.heap.size, 0, none⟩) ln' cn')) (w.alloc (.cells cur e)) := by
            have hby' : ¬ ((281474976710656:Int) < (i.bytes : Int) * cn') := by rw [Int.mul_comm]; omega
            have hD : ¬ (cn' < ln') := by omega
            have hP1 : ¬ ((cn' : Int) < 0) := by omega
            have hP2 : ¬ ((ln' : Int) < 0) := by omega
            by_cases hn : cn' * i.size = 0
            · refine ⟨#[], ?_, ?_⟩
              · symm
                have := repeatV_len z cn'
                rw [hzsz, hn] at this
                exact List.eq_nil_of_length_eq_zero this
              · simp [execOp, hop, Instr.makeSlice, run_underlying ht, el, ec, asInt, asIntOf, typeInfo, hi, w1, w2, hby', hD, hP1, hP2, askRoom, size_run hsz, hn, newRow, zero_run hzT, hzsz]
                have h0 : (Array.range 0) = #[] := by decide
                rw [h0]; simp
            · refine ⟨(Array.range (cn' * z.cells.size)).map fun i => z.cells[i % z.cells.size]!, range_repeat _ _, ?_⟩
              simp [execOp, hop, Instr.makeSlice, run_underlying ht, el, ec, asInt, asIntOf, typeInfo, hi, w1, w2, hby', hD, hP1, hP2, askRoom, size_run hsz, hn, newRow, zero_run hzT, hzsz]
          obtain ⟨cur, hcl, hrun⟩ := hcur
          rw [hrun]
          have htake : cur.toList.take (ln' * i.size) = repeatV z.cells.toList ln' := by
            obtain ⟨k, rfl⟩ := Nat.exists_eq_add_of_le hlc'
            rw [hcl, repeatV_add]
            have := repeatV_len z ln'
            rw [hzsz] at this
            rw [← this]
            exact List.take_left
          have hlen : (repeatV z.cells.toList ln').length = ln' * i.size := by rw [repeatV_len, hzsz]
          obtain ⟨g', h1, h2, h3⟩ := I.newArr (n := ln') (cap := cn') (cs := repeatCells zs ln') (cur := cur) (w' := w.alloc (.cells cur e)) hi rfl (by rw [htake]; exact hlen) hlc'
            (by unfold maxLen; omega) (by
              have : cur.size = cur.toList.length := by simp
              rw [this, hcl, repeatV_len, hzsz]) (by rw [htake]; exact repeat_rel rz ln')
          exact ⟨_, _, g', rfl, h1, h2, .asl h3⟩
        · cases h
      · cases h
    · cases h
  · cases h

theorem ok_panic (hρ : ∀ x, Rel g (ρ x) (ρv x)) {x : Operand} (hop : o.op = .panic x) (h : aop E ρ o H = some (res, H')) : OpOk E g H w H' ((execOp ρv o).run E.P w) res := by
  simp only [aop, hop] at h
  split at h
  · rename_i t y hx
    cases h
    have rx := hρ x
    rw [hx] at rx
    obtain ⟨u, hp, r⟩ := rel_ifc rx
    refine ⟨rfl, .iface t u, ?_, .ifc r⟩
    simp [execOp, hop, hp, Instr.panic, goPanic, Sem.run, Result.andThen]
  · cases h

theorem ok_defer (hρ : ∀ x, Rel g (ρ x) (ρv x)) {c : Call} (hop : o.op = .defer c) (h : aop E ρ o H = some (res, H')) : OpOk E g H w H' ((execOp ρv o).run E.P w) res := by
  simp only [aop, hop] at h
  split at h
  · rename_i f hf
    split at h
    · rename_i fn first cap hx
      cases h
      have rx := hρ f
      rw [hx] at rx
      obtain ⟨u1, u2, hp, r1, r2⟩ := rel_fn rx
      refine ⟨rfl, u2, u1 ++ c.args.toList.map ρv, ?_, r2, r1.append (relL_map hρ _)⟩
      simp [execOp, hop, resolve, hf, hp, Deferred.ofValue]
    · cases h
  · cases h

end
end Go.AI
end
section
namespace Go.AI
open Go

section
variable {E : Env} {g : Ghost} {H : Heap} {w : World} {ρ : Operand → AV} {ρv : Operand → Value} {o : Oper} {res : ARes} {H' : Heap}

/-- What is appended: m elements, of which the cells are known. -/
def SrcOk (P : Program) (size : Nat) (w : World) (x : Value) (m : Nat) (news : List Value) : Prop :=
  ∀ w' : World, w'.heap = w.heap → (Builtin.lenOf x).run P w' = .ok m w' ∧ (Builtin.firstCells size m x).run P w' = .ok news.toArray w'

theorem cell_heap {w w' : World} (h : w'.heap = w.heap) (a : Addr) : w'.cell? a = w.cell? a := by simp [World.cell?, h]

theorem src_cells {P : Program} {size m c : Nat} {a : Addr} {news : List Value} (hl : news.length = m * size) (hn : ∀ j u, news[j]? = some u → w.cell? (a.add j) = some u) :
    SrcOk P size w (.slice (some a) m c) m news := fun w' hw =>
  ⟨by simp [Builtin.lenOf], run_firstCells_some (P := P) w' size m a m c news hl fun j u h => by rw [cell_heap hw]; exact hn j u h⟩

theorem src_rel (I : Inv E g H w) {x : AV} {p : Value} {m size : Nat} {ys : List AV} (h : appendCells H x = some (m, ys)) (r : Rel g x p) (hl : ys.length = m * size) (hs : size ≠ 0) :
    ∃ news, RelL g ys news ∧ SrcOk E.P size w p m news := by
  unfold appendCells at h
  split at h
  · rename_i n cs
    cases h
    obtain ⟨a, cap, b, off, us, rfl, hn, hr, ha, hst⟩ := rel_sl r
    by_cases hcs : ys = []
    · have hu0 : us = [] := by subst hcs; exact hr.nil_of
      have hm0 : m = 0 := by
        rw [hcs] at hl
        simp only [List.length_nil] at hl
        rcases Nat.mul_eq_zero.1 hl.symm with h | h
        · exact h
        · exact (hs h).elim
      subst hm0
      refine ⟨us, hr, fun w' hw => ⟨by simp [Builtin.lenOf], ?_⟩⟩
      subst hu0
      cases a <;> simp [Builtin.firstCells, loadCells, loadCellsFrom]
    · rw [ha hcs]
      refine ⟨us, hr, src_cells (by rw [← hr.1]; exact hl) fun j u e => ?_⟩
      rw [addr_add]
      exact I.st _ _ _ (hst j u e)
  · rename_i id n
    obtain ⟨b, cap, rfl, hloc⟩ := rel_asl r
    split at h
    · rename_i e m' fz cs hH
      split at h
      · rename_i hm
        cases h
        subst hm
        obtain ⟨b', cap', us, i, cur, fr, hb', hi, hh, hfr, hus, hul, hn, hmax, hcs, hr⟩ := I.objs _ _ hH
        rw [hloc] at hb'; cases hb'
        refine ⟨us, hr, src_cells (by rw [← hr.1]; exact hl) fun j u e => ?_⟩
        rw [addr_add]
        exact cells_ok hh j u (by
          rw [← hus, List.getElem?_take] at e
          split at e
          · exact e
          · cases e)
      · cases h
    · cases h
  · rename_i s
    cases h
    rw [rel_v r]
    refine ⟨Lib.strCells s, ?_, fun w' hw => ⟨by simp [Builtin.lenOf], Lib.run_firstCells_string w' _ s⟩⟩
    have := RelL.map_v g (Lib.strCells s)
    simpa [bytesAV, Lib.strCells, Function.comp_def] using this
  · cases h
    rw [rel_v r]
    refine ⟨[], .nil g, fun w' hw => ⟨by simp [Builtin.lenOf], by simp [Builtin.firstCells]⟩⟩
  · cases h

theorem appendT_cases {d : Option TypeDesc} (h : appendT d = true) : (∃ s, d = some (.slice s)) ∨ d = some .string := by
  unfold appendT at h
  split at h
  · exact .inl ⟨_, rfl⟩
  · exact .inr rfl
  · cases h

/-- There is room. -/
theorem append_room {P : Program} {t u ty e : TypeId} {i : TypeInfo} (ht : P.underlying t = some (.slice e)) (hu : appendT (P.underlying u) = true) (hi : P.info? e = some i)
    {b n cap m : Nat} {cur : Array Value} {x : Value} {news : List Value} (hh : w.heap[b]? = some (.cells cur e (0, 0))) (hx : SrcOk P i.size w x m news) (hl : news.length = m * i.size) (h1 : ∀ u ∈ news, u.oneCell' = true)
    (hroom : n + m ≤ cap) (hcur : cur.size = cap * i.size) :
    (Builtin.append_ #[t, u] ty #[.slice (some ⟨b, 0, none⟩) n cap, x]).run P w =
      .ok (.slice (some ⟨b, 0, none⟩) (n + m) cap) (w.setRow b (cur.toList.take (n * i.size) ++ news ++ cur.toList.drop (n * i.size + news.length)).toArray) := by
  have hfit : n * i.size + news.length ≤ cur.size := by rw [hl, hcur, ← Nat.add_mul]; exact Nat.mul_le_mul_right _ hroom
  have hst := run_storeCells_at (P := P) b (n * i.size) e news 0 cur w hh (by simpa using hfit) h1
  simp only [Nat.add_zero] at hst
  obtain ⟨hx1, hx2⟩ := hx w rfl
  rcases appendT_cases hu with ⟨q, hu⟩ | hu <;> simp [Builtin.append_, run_underlying ht, run_underlying hu, sizeOf, typeInfo, hi, hx1, hx2, hroom, addr_add, hst]

/-- Nothing is appended to nothing. -/
theorem append_none {P : Program} {t u ty e : TypeId} {i : TypeInfo} (ht : P.underlying t = some (.slice e)) (hu : appendT (P.underlying u) = true) (hi : P.info? e = some i)
    {x : Value} {news : List Value} (hx : SrcOk P i.size w x 0 news) :
    (Builtin.append_ #[t, u] ty #[.slice none 0 0, x]).run P w = .ok (.slice none 0 0) w := by
  obtain ⟨hx1, hx2⟩ := hx w rfl
  rcases appendT_cases hu with ⟨q, hu⟩ | hu <;> simp [Builtin.append_, run_underlying ht, run_underlying hu, sizeOf, typeInfo, hi, hx1, hx2]

/-- There is none: a new row. -/
theorem append_grow {P : Program} {t u ty e : TypeId} {i : TypeInfo} {z : Value} (ht : P.underlying t = some (.slice e)) (hu : appendT (P.underlying u) = true) (hi : P.info? e = some i) (hz : i.zero = some z)
    {a : Option Addr} {n cap m : Nat} {x : Value} {old news : List Value} (hx : SrcOk P i.size w x m news) (ho : ∀ w' : World, w'.heap = w.heap → (Builtin.firstCells i.size n (.slice a n cap)).run P w' = .ok old.toArray w')
    (hroom : cap < n + m) (h63 : n + m ≤ 2 ^ 46) (hfits : Builtin.nextslicecap (n + m) cap * i.bytes ≤ 281474976710656) :
    (Builtin.append_ #[t, u] ty #[.slice a n cap, x]).run P w =
      .ok (.slice (some ⟨w.heap.size, 0, none⟩) (n + m) (grownCap w (n + m) cap e)) (w.drew.alloc (.cells (old.toArray ++ news.toArray ++ Builtin.zeroCells z.cells (grownCap w (n + m) cap e - (n + m))) e)) := by
  obtain ⟨hx1, -⟩ := hx w rfl
  obtain ⟨-, hx2⟩ := hx w.drew rfl
  have ho := ho w.drew rfl
  have hr : ¬ (n + m ≤ cap) := by omega
  have h63' : ¬ (9223372036854775807 < (n : Int) + (m : Int)) := by omega
  have hf' : ¬ (281474976710656 < Builtin.nextslicecap (n + m) cap * i.bytes) := by omega
  rcases appendT_cases hu with ⟨q, hu⟩ | hu <;> simp [Builtin.append_, run_underlying ht, run_underlying hu, sizeOf, typeInfo, zeroValue, hi, hz, hx1, hx2, ho, hr, h63', hf', Question.forced, newRow, grownCap, askRoom]
  all_goals (congr 2; apply Array.ext'; simp)

theorem ok_append (I : Inv E g H w) (hρ : ∀ x, Rel g (ρ x) (ρv x)) {c : Call} (hop : o.op = .call c) (hc : c.callee = .builtin .append) (h : aop E ρ o H = some (res, H')) : OpOk E g H w H' ((execOp ρv o).run E.P w) res := by
  simp only [aop, hop, hc] at h
  split at h
  · rename_i s x t u hargs htys
    have hA : c.args = #[s, x] := by apply Array.toList_inj.1; simpa using hargs
    have hT : c.argTypes = #[t, u] := by apply Array.toList_inj.1; simpa using htys
    have hrun : ∀ (v : Value) (w' : World), (Builtin.append_ #[t, u] o.type #[ρv s, ρv x]).run E.P w = .ok v w' → (execOp ρv o).run E.P w = .ok (.value v) w' := by
      intro v w' hv
      simp [execOp, hop, hc, resolve, hA, hT, invoke, builtin, hv]
    split at h
    · rename_i e ht hu
      split at h
      · rename_i i m ys hi hap
        have rs := hρ s
        split at h
        · rename_i hs
          rw [hs] at rs
          have hps := rel_v rs
          split at h
          · rename_i hcond
            obtain ⟨hz, hyl, hone, hsz, hb1, hb2⟩ := hcond
            obtain ⟨news, rn, hx⟩ := src_rel I hap (hρ x) hyl hsz
            obtain ⟨z, hz1, hz2⟩ := Option.map_eq_some_iff.1 hz
            split at h
            · rename_i hm
              subst hm
              cases h
              rw [hrun _ w (by rw [hps]; exact append_none ht hu hi hx)]
              exact OpOk.here I (.v _)
            · rename_i hm
              cases h
              have hfits := growslice_fits (need := 0 + m) (old := 0) (bytes := i.bytes) (by omega) (by rw [Nat.zero_add]; omega)
              have hr := append_grow (w := w) (ty := o.type) (a := none) (n := 0) (cap := 0) (old := []) ht hu hi hz1 hx (fun w' _ => by simp [Builtin.firstCells]) (by omega) (by omega) hfits
              rw [Nat.zero_add] at hr
              rw [hrun _ _ (by rw [hps]; exact hr)]
              have hge := grownCap_ge w m 0 e
              have hcm := grownCap_le_maxLen w m 0 e (by unfold maxLen; omega)
              have hnl : news.length = m * i.size := by rw [← rn.1]; exact hyl
              have htk : (([] : List Value).toArray ++ news.toArray ++ Builtin.zeroCells z.cells (grownCap w m 0 e - m)).toList.take (m * i.size) = news := by
                rw [← hnl]; simp
              obtain ⟨g', h1, h2, h3⟩ := I.newArr (n := m) (cap := grownCap w m 0 e) (cs := ys) (cur := ([] : List Value).toArray ++ news.toArray ++ Builtin.zeroCells z.cells (grownCap w m 0 e - m))
                (w' := w.drew.alloc (.cells (([] : List Value).toArray ++ news.toArray ++ Builtin.zeroCells z.cells (grownCap w m 0 e - m)) e)) hi rfl (by rw [htk]; exact hnl) hge hcm
                (by
                  have e1 : m * i.size + (grownCap w m 0 e - m) * i.size = grownCap w m 0 e * i.size := by rw [← Nat.add_mul]; congr 1; omega
                  simp only [Array.size_append, List.size_toArray, size_zeroCells, hz2, hnl, List.length_nil]; omega) (by rw [htk]; exact rn)
              exact ⟨_, _, g', rfl, h1, h2, .asl h3⟩
          · cases h
        · rename_i id n hs
          rw [hs] at rs
          obtain ⟨b, cap, hps, hloc⟩ := rel_asl rs
          split at h
          · rename_i e' n' fz cs hH
            split at h
            · rename_i hcond
              obtain ⟨hz, rfl, rfl, rfl, hcl, hyl, hone, hsz, hb1, hb2, hother⟩ := hcond
              cases h
              obtain ⟨news, rn, hx⟩ := src_rel I hap (hρ x) hyl hsz
              obtain ⟨z, hz1, hz2⟩ := Option.map_eq_some_iff.1 hz
              obtain ⟨b', cap', us, i', cur, fr, hb', hi', hh, hfr, hus, hul, hn, hmax, hcs, hr⟩ := I.objs _ _ hH
              rw [hloc] at hb'; cases hb'
              rw [hi] at hi'; cases hi'
              have hfr := hfr rfl; subst hfr
              have hid : id < H.length := (List.getElem?_eq_some_iff.1 hH).1
              have hnl : news.length = m * i.size := by rw [← rn.1]; exact hyl
              have hbl : blk g id (.arr e' n' false cs) = some b := by simp [blk, hloc]
              have hmem := one_cells hone rn
              by_cases hroom : n' + m ≤ cap
              · have hr' := append_room (w := w) (ty := o.type) (n := n') (cap := cap) ht hu hi hh hx hnl hmem hroom hcs
                rw [hrun _ _ (by rw [hps]; exact hr')]
                let g' : Ghost := { g with aloc := fun j k => if j = id ∧ k = n' + m then some (b, cap) else g.aloc j k }
                have le : g.Le g' := ⟨fun _ _ e => e, fun j k p hp => by
                  show (if j = id ∧ k = n' + m then some (b, cap) else g.aloc j k) = some p
                  split
                  · rename_i hj
                    obtain ⟨rfl, rfl⟩ := hj
                    have := I.amax _ _ _ _ _ hH _ _ hp
                    have hm0 : m = 0 := by omega
                    subst hm0
                    rw [Nat.add_zero, hloc] at hp
                    exact hp
                  · exact hp, fun _ _ _ e => e⟩
                have hloc' : g'.aloc id (n' + m) = some (b, cap) := if_pos ⟨rfl, rfl⟩
                have htk : ((cur.toList.take (n' * i.size) ++ news ++ cur.toList.drop (n' * i.size + news.length)).toArray).toList.take ((n' + m) * i.size) = us ++ news := by
                  have hlen : (us ++ news).length = (n' + m) * i.size := by rw [List.length_append, hul, hnl, Nat.add_mul]
                  rw [hus, ← hlen]
                  exact List.take_left
                have key := I.turn (g' := g') (w' := w.setRow b (cur.toList.take (n' * i.size) ++ news ++ cur.toList.drop (n' * i.size + news.length)).toArray) id
                  (.arr e' (n' + m) false (cs ++ ys)) (Nat.le_of_lt hid) le (by rw [size_setRow]; exact Nat.le_refl _)
                  (fun c hc hn => heap_setRow_ne (fun e => by subst e; exact hn _ hH hbl))
                  ⟨b, cap, _, i, _, (0, 0), hloc', hi, setRow_heap w b cur _ e' _ hh, fun _ => rfl, htk, by rw [List.length_append, hul, hnl, Nat.add_mul], hroom, hmax, by
                    have hfit : (n' + m) * i.size ≤ cap * i.size := Nat.mul_le_mul_right _ hroom
                    have hfit2 : n' * i.size ≤ cap * i.size := Nat.mul_le_mul_right _ hn
                    rw [Nat.add_mul] at hfit
                    simp only [List.size_toArray, List.length_append, List.length_take, List.length_drop, Array.length_toList]
                    omega, (hr.mono le).append (rn.mono le)⟩
                  (fun c hc => by
                    have hc : (g'.aloc id (n' + m)).map (·.1) = some c := hc
                    rw [hloc'] at hc
                    cases hc
                    exact .inr ⟨_, hH, hbl⟩) (fun c o u e => .inl e) (fun j c e => .inl e)
                  (fun j k p hp => by
                    have hp : (if j = id ∧ k = n' + m then some (b, cap) else g.aloc j k) = some p := hp
                    split at hp
                    · rename_i hj; cases hp
                      exact .inr ⟨hj.1, by rw [size_setRow]; exact lt_of_heap hh⟩
                    · exact .inl hp)
                  (fun _ _ _ _ heq k p hp => by
                    cases heq
                    have hp : (if id = id ∧ k = n' + m then some (b, cap) else g.aloc id k) = some p := hp
                    split at hp
                    · rename_i hj; omega
                    · have := I.amax _ _ _ _ _ hH _ _ hp; omega)
                have hset : setAt H id (.arr e' (n' + m) false (cs ++ ys)) = H.set id (.arr e' (n' + m) false (cs ++ ys)) := by simp [setAt, hid]
                rw [hset] at key
                exact ⟨_, _, g', rfl, key.1, key.2, .asl hloc'⟩
              · have hm0 : m ≠ 0 := by omega
                have hfits := growslice_fits (need := n' + m) (old := cap) (bytes := i.bytes) (by omega) (by omega)
                have hr' := append_grow (w := w) (ty := o.type) (a := some ⟨b, 0, none⟩) (n := n') (cap := cap) (old := us) ht hu hi hz1 hx
                  (fun w' hw => run_firstCells_some (P := E.P) w' i.size n' ⟨b, 0, none⟩ n' cap us hul (fun j u hj => by
                    rw [cell_heap hw, addr_add]
                    exact cells_ok hh j u (by
                      rw [← hus, List.getElem?_take] at hj
                      split at hj
                      · exact hj
                      · cases hj))) (by omega) (by omega) hfits
                rw [hrun _ _ (by rw [hps]; exact hr')]
                have hge := grownCap_ge w (n' + m) cap e'
                have hcm := grownCap_le_maxLen w (n' + m) cap e' (by unfold maxLen; omega)
                let g' : Ghost := { g with aloc := fun j k => if j = id ∧ k = n' + m then some (w.heap.size, grownCap w (n' + m) cap e') else g.aloc j k }
                have le : g.Le g' := ⟨fun _ _ e => e, fun j k p hp => by
                  show (if j = id ∧ k = n' + m then some (w.heap.size, grownCap w (n' + m) cap e') else g.aloc j k) = some p
                  split
                  · rename_i hj
                    obtain ⟨rfl, rfl⟩ := hj
                    have := I.amax _ _ _ _ _ hH _ _ hp
                    omega
                  · exact hp, fun _ _ _ e => e⟩
                have hloc' : g'.aloc id (n' + m) = some (w.heap.size, grownCap w (n' + m) cap e') := if_pos ⟨rfl, rfl⟩
                have hlen : (us ++ news).length = (n' + m) * i.size := by rw [List.length_append, hul, hnl, Nat.add_mul]
                have htk : (us.toArray ++ news.toArray ++ Builtin.zeroCells z.cells (grownCap w (n' + m) cap e' - (n' + m))).toList.take ((n' + m) * i.size) = us ++ news := by
                  have e0 : (us.toArray ++ news.toArray ++ Builtin.zeroCells z.cells (grownCap w (n' + m) cap e' - (n' + m))).toList = (us ++ news) ++ (Builtin.zeroCells z.cells (grownCap w (n' + m) cap e' - (n' + m))).toList := by simp
                  rw [← hlen, e0]
                  exact List.take_left
                have key := I.turn (g' := g') (w' := w.drew.alloc (.cells (us.toArray ++ news.toArray ++ Builtin.zeroCells z.cells (grownCap w (n' + m) cap e' - (n' + m))) e')) id
                  (.arr e' (n' + m) false (cs ++ ys)) (Nat.le_of_lt hid) le (by simp)
                  (fun c hc _ => heap_old w.drew _ hc)
                  ⟨w.heap.size, grownCap w (n' + m) cap e', _, i, _, (0, 0), hloc', hi, heap_new w.drew _, fun _ => rfl, htk, hlen, hge, hcm, by
                    have e1 : n' * i.size + m * i.size + (grownCap w (n' + m) cap e' - (n' + m)) * i.size = grownCap w (n' + m) cap e' * i.size := by rw [← Nat.add_mul, ← Nat.add_mul]; congr 1; omega
                    simp only [Array.size_append, List.size_toArray, size_zeroCells, hz2, hnl, hul]; omega, (hr.mono le).append (rn.mono le)⟩
                  (fun c hc => by
                    have hc : (g'.aloc id (n' + m)).map (·.1) = some c := hc
                    rw [hloc'] at hc
                    cases hc
                    exact .inl (Nat.le_refl _)) (fun c o u e => .inl e) (fun j c e => .inl e)
                  (fun j k p hp => by
                    have hp : (if j = id ∧ k = n' + m then some (w.heap.size, grownCap w (n' + m) cap e') else g.aloc j k) = some p := hp
                    split at hp
                    · rename_i hj; cases hp
                      exact .inr ⟨hj.1, by simp⟩
                    · exact .inl hp)
                  (fun _ _ _ _ heq k p hp => by
                    cases heq
                    have hp : (if id = id ∧ k = n' + m then some (w.heap.size, grownCap w (n' + m) cap e') else g.aloc id k) = some p := hp
                    split at hp
                    · rename_i hj; omega
                    · have := I.amax _ _ _ _ _ hH _ _ hp; omega)
                have hset : setAt H id (.arr e' (n' + m) false (cs ++ ys)) = H.set id (.arr e' (n' + m) false (cs ++ ys)) := by simp [setAt, hid]
                rw [hset] at key
                exact ⟨_, _, g', rfl, key.1, key.2, .asl hloc'⟩
            · cases h
          · cases h
        · cases h
      · cases h
    · cases h
  · cases h

end
end Go.AI
end
section
namespace Go.AI
open Go

section
variable {E : Env} {g : Ghost} {H : Heap} {w : World} {ρ : Operand → AV} {ρv : Operand → Value} {o : Oper} {res : ARes} {H' : Heap}

theorem unL_map (hρ : ∀ x, Rel g (ρ x) (ρv x)) {xs : List Operand} {vs : List Value} (h : unL (xs.map ρ) = some vs) : xs.map ρv = vs := unL_rel h (relL_map hρ xs)

theorem call_builtin {c : Call} {b : Builtin} (hop : o.op = .call c) (hc : c.callee = .builtin b) :
    ∃ cs, (execOp ρv o).run E.P w = (builtin b c.argTypes o.type cs (c.args.map ρv)).run E.P w := by
  refine ⟨c.args.map fun | .const _ => true | _ => false, ?_⟩
  simp only [execOp, hop, resolve, hc, Sem.run_bind, Sem.run_pure, Result.andThen_ok, invoke]
  rfl

theorem args1 {c : Call} {x : Operand} (h : c.args.toList = [x]) : c.args = #[x] := by apply Array.toList_inj.1; simpa using h
theorem args2 {c : Call} {x y : Operand} (h : c.args.toList = [x, y]) : c.args = #[x, y] := by apply Array.toList_inj.1; simpa using h

theorem ok_len (I : Inv E g H w) (hρ : ∀ x, Rel g (ρ x) (ρv x)) {c : Call} (hop : o.op = .call c) (hc : c.callee = .builtin .len) (h : aop E ρ o H = some (res, H')) : OpOk E g H w H' ((execOp ρv o).run E.P w) res := by
  simp only [aop, hop, hc] at h
  split at h
  · rename_i x t hargs htys
    have hA := args1 hargs
    have hT : c.argTypes = #[t] := by apply Array.toList_inj.1; simpa using htys
    have rx := hρ x
    have hrun : ∀ v w', (Builtin.len_ #[t] o.type #[ρv x]).run E.P w = .ok v w' → (execOp ρv o).run E.P w = .ok (.value v) w' := by
      intro v w' hv
      obtain ⟨cs, hcs⟩ := call_builtin (E := E) (w := w) (ρv := ρv) hop hc
      rw [hcs, hA, hT]
      simp [builtin, hv]
    have hsl : ∀ n, (∃ a cap, ρv x = .slice a n cap) → (match E.P.underlying t with | some (.slice _) => some (ARes.val (.v (goInt n)), H) | _ => none) = some (res, H') → OpOk E g H w H' ((execOp ρv o).run E.P w) res := by
      rintro n ⟨a, cap, hv⟩ h
      split at h
      · rename_i ht
        cases h
        rw [hrun (goInt n) w (by simp [Builtin.len_, run_underlying ht, hv])]
        exact OpOk.here I (.v _)
      · cases h
    split at h
    · rename_i n cs hx
      rw [hx] at rx
      obtain ⟨a, cap, b, off, us, hp, -⟩ := rel_sl rx
      exact hsl n ⟨_, _, hp⟩ h
    · rename_i id n hx
      rw [hx] at rx
      obtain ⟨b, cap, hp, -⟩ := rel_asl rx
      exact hsl n ⟨_, _, hp⟩ h
    · rename_i id off n hx
      rw [hx] at rx
      obtain ⟨b, cap, hp, -⟩ := rel_bsl rx
      exact hsl n ⟨_, _, hp⟩ h
    · rename_i id hx
      rw [hx] at rx
      obtain ⟨b, hp, hl⟩ := rel_mp rx
      split at h
      · rename_i es ht hH
        cases h
        obtain ⟨b', ents, clock, hb, hh, hm⟩ := I.objs _ _ hH
        rw [hl] at hb; cases hb
        have hsz : ents.size = es.length := by have := hm.1; simp at this; omega
        rw [hrun (goInt es.length) w (by simp [Builtin.len_, run_underlying ht, hp, getObj, Sem.run, hh, hsz])]
        exact OpOk.here I (.v _)
      · cases h
    · split at h
      · rename_i a ha
        obtain ⟨r, hq, he⟩ := Option.map_eq_some_iff.1 h
        cases he
        have hv := quiet_run _ hq w
        rw [hT] at hv
        rw [hrun r w (by rw [un_rel ha rx]; exact hv)]
        exact OpOk.here I (conv_rel g r)
      · cases h
  · cases h

theorem ok_min (I : Inv E g H w) (hρ : ∀ x, Rel g (ρ x) (ρv x)) {c : Call} (hop : o.op = .call c) (hc : c.callee = .builtin .min) (h : aop E ρ o H = some (res, H')) : OpOk E g H w H' ((execOp ρv o).run E.P w) res := by
  simp only [aop, hop, hc] at h
  split at h
  · rename_i vs hvs
    obtain ⟨r, hq, he⟩ := Option.map_eq_some_iff.1 h
    cases he
    have hv := quiet_run _ hq w
    have hargs : c.args.map ρv = vs.toArray := by rw [← unL_map hρ hvs]; apply Array.ext'; simp
    obtain ⟨cs, hcs⟩ := call_builtin (E := E) (w := w) (ρv := ρv) hop hc
    rw [hcs, hargs]
    have : (builtin .min c.argTypes o.type cs vs.toArray).run E.P w = .ok (.value r) w := by simp [builtin, hv]
    rw [this]
    exact OpOk.here I (conv_rel g r)
  · cases h

theorem ok_max (I : Inv E g H w) (hρ : ∀ x, Rel g (ρ x) (ρv x)) {c : Call} (hop : o.op = .call c) (hc : c.callee = .builtin .max) (h : aop E ρ o H = some (res, H')) : OpOk E g H w H' ((execOp ρv o).run E.P w) res := by
  simp only [aop, hop, hc] at h
  split at h
  · rename_i vs hvs
    obtain ⟨r, hq, he⟩ := Option.map_eq_some_iff.1 h
    cases he
    have hv := quiet_run _ hq w
    have hargs : c.args.map ρv = vs.toArray := by rw [← unL_map hρ hvs]; apply Array.ext'; simp
    obtain ⟨cs, hcs⟩ := call_builtin (E := E) (w := w) (ρv := ρv) hop hc
    rw [hcs, hargs]
    have : (builtin .max c.argTypes o.type cs vs.toArray).run E.P w = .ok (.value r) w := by simp [builtin, hv]
    rw [this]
    exact OpOk.here I (conv_rel g r)
  · cases h

theorem ok_sliceData (I : Inv E g H w) (hρ : ∀ x, Rel g (ρ x) (ρv x)) {c : Call} (hop : o.op = .call c) (hc : c.callee = .builtin .unsafeSliceData) (h : aop E ρ o H = some (res, H')) : OpOk E g H w H' ((execOp ρv o).run E.P w) res := by
  simp only [aop, hop, hc] at h
  split at h
  · rename_i x hargs
    have hA := args1 hargs
    have rx := hρ x
    have hrun : ∀ v w', (Builtin.unsafeSliceData_ c.argTypes o.type #[ρv x]).run E.P w = .ok v w' → (execOp ρv o).run E.P w = .ok (.value v) w' := by
      intro v w' hv
      obtain ⟨cs, hcs⟩ := call_builtin (E := E) (w := w) (ρv := ρv) hop hc
      rw [hcs, hA]
      simp [builtin, hv]
    split at h
    · rename_i id n hx
      rw [hx] at rx
      obtain ⟨b, cap, hp, hl⟩ := rel_asl rx
      split at h
      · rename_i e n' fz cs hH
        split at h
        · rename_i hn'
          subst hn'
          cases h
          obtain ⟨b', cap', us, i, cur, fr, hb', hi, hh, hfr, hus, hul, hn, hmx, hcs, hr⟩ := I.objs _ _ hH
          rw [hl] at hb'; cases hb'
          rw [hrun _ w (by rw [hp]; exact Lib.run_unsafeSliceData_row w _ _ _ _ _ (by omega))]
          exact OpOk.here I (.ap 0 hl)
        · cases h
      · cases h
    · rename_i n c' hx
      rw [hx] at rx
      cases h
      rw [hrun (.pointer none) w (by rw [rel_v rx]; exact Lib.run_unsafeSliceData_nil w _ _ _ _)]
      exact OpOk.here I (.v _)
    · cases h
  · cases h

theorem ok_ustring (I : Inv E g H w) (hρ : ∀ x, Rel g (ρ x) (ρv x)) {c : Call} (hop : o.op = .call c) (hc : c.callee = .builtin .unsafeString) (h : aop E ρ o H = some (res, H')) : OpOk E g H w H' ((execOp ρv o).run E.P w) res := by
  simp only [aop, hop, hc] at h
  split at h
  · rename_i x k pt it hargs htys
    have hA := args2 hargs
    have hT : c.argTypes = #[pt, it] := by apply Array.toList_inj.1; simpa using htys
    have hrun : ∀ v w', (Builtin.unsafeString_ #[pt, it] o.type #[ρv x, ρv k]).run E.P w = .ok v w' → (execOp ρv o).run E.P w = .ok (.value v) w' := by
      intro v w' hv
      obtain ⟨cs, hcs⟩ := call_builtin (E := E) (w := w) (ρv := ρv) hop hc
      rw [hcs, hA, hT]
      simp [builtin, hv]
    have rx := hρ x
    split at h
    · rename_i id n m hx hk
      rw [hx] at rx
      obtain ⟨b, cap, hp, hl⟩ := rel_ap rx
      have ek := un_rel hk (hρ k)
      split at h
      · rename_i e n' fz cs u hH hpt
        split at h
        · rename_i bs hb
          split at h
          · rename_i hcond
            obtain ⟨rfl, rfl, rfl, hn0, hmax, hc1, hs1, hbl⟩ := hcond
            cases h
            obtain ⟨b', cap', us, i, cur, fr, hb', hi, hh, hfr, hus, hul, hn, hmx, hcs, hr⟩ := I.objs _ _ hH
            rw [hl] at hb'; cases hb'
            have hi1 : i.size = 1 := by
              simp only [sizeT, hi, Option.map_some, Option.some.injEq] at hs1
              exact hs1
            rw [hi1, Nat.mul_one] at hul hcs
            have hus2 := byteCells_int hb hr
            obtain ⟨h1, h2⟩ := I.frz (k := bs.length) (off := 0) hH hl (by omega)
            have hsh : w.shape? b = some (u, cur.size) := by unfold World.shape?; rw [hh]
            have hv := Lib.run_unsafeString_row (P := E.P) w pt it o.type u hpt hc1 b cur.size hsh bs (by intro e; subst e; simp at hbl; omega) (by omega) (by omega) (fun j x hj => by
              rw [addr_add]
              refine cells_ok hh j _ ?_
              have : us[j]? = some (.int .u8 x.toNat) := by rw [hus2]; simp [hj]
              rw [← hus, List.getElem?_take] at this
              split at this
              · exact this
              · cases this)
            rw [hbl] at hv h1 h2
            rw [hrun (.string ⟨bs.toArray⟩) _ (by rw [hp, ek]; exact hv)]
            exact ⟨_, _, g, rfl, h1, h2, .v _⟩
          · cases h
        · cases h
      · cases h
    · rename_i hx hk
      rw [hx] at rx
      have ek := un_rel hk (hρ k)
      cases h
      rw [hrun (.string .empty) w (by rw [rel_v rx, ek]; exact Lib.run_unsafeString_none w _ _ _ _)]
      exact OpOk.here I (.v _)
    · cases h
  · cases h

theorem ok_recover {c : Call} (hop : o.op = .call c) (hc : c.callee = .builtin .recover) (h : aop E ρ o H = some (res, H')) : OpOk E g H w H' ((execOp ρv o).run E.P w) res := by
  simp only [aop, hop, hc] at h
  cases h
  obtain ⟨cs, hcs⟩ := call_builtin (E := E) (w := w) (ρv := ρv) hop hc
  exact ⟨rfl, by rw [hcs]; simp [builtin]⟩

theorem ok_value (G : E.Good) (I : Inv E g H w) (hρ : ∀ x, Rel g (ρ x) (ρv x)) {c : Call} {f : Operand} (hop : o.op = .call c) (hc : c.callee = .value f) (h : aop E ρ o H = some (res, H')) : OpOk E g H w H' ((execOp ρv o).run E.P w) res := by
  simp only [aop, hop, hc] at h
  split at h
  · rename_i fn first cap hf
    have rf := hρ f
    rw [hf] at rf
    obtain ⟨u1, u2, hp, r1, r2⟩ := rel_fn rf
    have rall := (r1.append (relL_map hρ c.args.toList)).append r2
    have hrun : (execOp ρv o).run E.P w = (callFunc fn (u1 ++ c.args.toList.map ρv ++ u2).toArray).run E.P w := by
      have he : (u1.toArray ++ c.args.map ρv ++ u2.toArray) = (u1 ++ c.args.toList.map ρv ++ u2).toArray := by simp
      simp only [execOp, hop, resolve, hc, hp, Deferred.ofValue, Sem.run_bind, Sem.run_pure, Result.andThen_ok, invoke]
      rw [he]
    rw [hrun]
    split at h
    · rename_i q hq
      cases h
      obtain ⟨h1, h2, h3⟩ := G.code fn q.1 q.2 hq
      refine ⟨rfl, _, ?_, rall⟩
      simp [callFunc, h1, h2, (by simpa using h3 : ¬ q.1.name = "runtime.NumGoroutine")]
    · split at h
      · rename_i hn
        split at h
        · rename_i id off hall
          cases h
          rw [hall] at rall
          obtain ⟨u, us, hu, ru, rn⟩ := rall.cases
          have := rn.nil_of
          subst this
          rw [hu]
          obtain ⟨b, hb, hl⟩ := rel_ptr ru
          rw [G.noesc fn u w hn]
          exact OpOk.here I ru
        · cases h
      · split at h
        · rename_i vs hvs
          obtain ⟨r, hr, he⟩ := Option.map_eq_some_iff.1 h
          cases he
          rw [unL_rel hvs rall, G.ext fn vs r w hr]
          exact OpOk.here I (conv_rel g r)
        · cases h
  · cases h

end
end Go.AI
end
section
namespace Go.AI
open Go

/-- One operation. -/
theorem aop_ok {E : Env} {g : Ghost} {H : Heap} {w : World} {ρ : Operand → AV} {ρv : Operand → Value} {o : Oper} {res : ARes} {H' : Heap} (G : E.Good) (I : Inv E g H w) (hρ : ∀ x, Rel g (ρ x) (ρv x))
    (h : aop E ρ o H = some (res, H')) : OpOk E g H w H' ((execOp ρv o).run E.P w) res := by
  cases hop : o.op with
  | move x => exact ok_move I hρ (.inl hop) h
  | assign x => exact ok_move I hρ (.inr hop) h
  | pick c a b => exact ok_pick I hρ hop h
  | alloc t => exact ok_alloc I hop h
  | box t x => exact ok_box I hρ hop h
  | build t parts => exact ok_build I hρ hop h
  | buildSlice t len parts => exact ok_buildSlice I hρ hop h
  | load t a => exact ok_load I hρ hop h
  | store t a x => exact ok_store I hρ hop h
  | nilCheck x => exact ok_nilCheck I hρ hop h
  | binOp op t x y t2 => exact ok_binOp I hρ hop h
  | unOp p t x => exact ok_unOp I hρ hop h
  | convert s d x => exact ok_convert I hρ hop h
  | makeInterface t x => exact ok_makeInterface I hρ hop h
  | makeFunc f first cap => exact ok_makeFunc I hρ hop h
  | makeMap t r => exact ok_makeMap I hop h
  | makeSlice t l c => exact ok_makeSlice I hρ hop h
  | slice t x lo hi mx => exact ok_slice I hρ hop h
  | fieldAddr s x i => exact ok_fieldAddr I hρ hop h
  | field t x i => exact ok_field I hρ hop h
  | indexAddr t x ix => exact ok_indexAddr I hρ hop h
  | index t x ix => exact ok_index I hρ hop h
  | lookup t m k ok => exact ok_lookup I hρ hop h
  | mapUpdate t m k x => exact ok_mapUpdate I hρ hop h
  | typeAssert x xt t ok => exact ok_typeAssert I hρ hop h
  | extract x i => exact ok_extract I hρ hop h
  | panic x => exact ok_panic hρ hop h
  | defer c => exact ok_defer hρ hop h
  | call c =>
    cases hc : c.callee with
    | value f => exact ok_value G I hρ hop hc h
    | invoke r n => simp [aop, hop, hc] at h
    | builtin b =>
      cases b with
      | append => exact ok_append I hρ hop hc h
      | len => exact ok_len I hρ hop hc h
      | min => exact ok_min I hρ hop hc h
      | max => exact ok_max I hρ hop hc h
      | unsafeSliceData => exact ok_sliceData I hρ hop hc h
      | unsafeString => exact ok_ustring I hρ hop hc h
      | recover => exact ok_recover hop hc h
      | _ => simp [aop, hop, hc] at h
  | _ => simp [aop, hop] at h

end Go.AI
end

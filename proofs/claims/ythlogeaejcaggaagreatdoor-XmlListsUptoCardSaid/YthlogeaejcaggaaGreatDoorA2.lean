/- A part of the proof: the abstract run of whole functions is sound, and rules by which it goes on at values that are not told. -/
import Derived.Tactics
import Derived.LoopN
import Derived.Recover
import Derived.Below
import Derived.Test.YthlogeaejcaggaaGreatDoorA1
set_option linter.all false
section
/-! Regions in the text's order, control, calls. -/
namespace Go.AI
open Go

def DefRel (g : Ghost) (df : List (Fn × List AV × List AV)) (ds : List Deferred) : Prop :=
  df.length = ds.length ∧ ∀ (i : Nat) f cap args d, df[i]? = some (f, cap, args) → ds[i]? = some d →
    ∃ capV argsV : List Value, d = { target := .fn f capV.toArray, args := argsV.toArray } ∧ RelL g cap capV ∧ RelL g args argsV

theorem DefRel.mono {g g' : Ghost} (le : g.Le g') {df : List (Fn × List AV × List AV)} {ds : List Deferred} (h : DefRel g df ds) : DefRel g' df ds :=
  ⟨h.1, fun i f cap args d e1 e2 => by
    obtain ⟨c, a, h1, h2, h3⟩ := h.2 i f cap args d e1 e2
    exact ⟨c, a, h1, h2.mono le, h3.mono le⟩⟩
theorem DefRel.cons {g : Ghost} {df : List (Fn × List AV × List AV)} {ds : List Deferred} (h : DefRel g df ds) {f : Fn} {cap args : List AV} {capV argsV : List Value} (r1 : RelL g cap capV) (r2 : RelL g args argsV) :
    DefRel g ((f, cap, args) :: df) ({ target := .fn f capV.toArray, args := argsV.toArray } :: ds) :=
  ⟨by simp [h.1], fun i f' cap' args' d e1 e2 => by
    cases i with
    | zero =>
      simp only [List.getElem?_cons_zero, Option.some.injEq, Prod.mk.injEq] at e1 e2
      obtain ⟨rfl, rfl, rfl⟩ := e1
      exact ⟨capV, argsV, e2.symm, r1, r2⟩
    | succ i => exact h.2 i f' cap' args' d (by simpa using e1) (by simpa using e2)⟩

/-- A frame's state. -/
structure StOk (E : Env) (g : Ghost) (s : St) (a : Act) (w : World) : Prop where
  inv : Inv E g s.H w
  tm : RelL g s.tm a.tmps.toList
  df : DefRel g s.df a.defers

def ExOk (g : Ghost) : AExit → Exit → Prop
  | .normal, .normal => True
  | .exit i, .exit j => i = j
  | .ret, .ret => True
  | .pan x, .panic chain => ∃ v, chain = [{ v, recovered := false }] ∧ Rel g x v
  | _, _ => False

def Post (E : Env) (g : Ghost) (H : Heap) (w : World) (r : AExit × St) (e : Exit) (a : Act) (w' : World) : Prop :=
  ∃ g', ExOk g' r.1 e ∧ StOk E g' r.2 a w' ∧ Step g H w g' r.2.H w'

theorem Post.step {E : Env} {g g1 : Ghost} {H H1 : Heap} {w w1 : World} {r : AExit × St} {e : Exit} {a : Act} {w' : World} (S : Step g H w g1 H1 w1) (h : Post E g1 H1 w1 r e a w') : Post E g H w r e a w' := by
  obtain ⟨g', h1, h2, h3⟩ := h
  exact ⟨g', h1, h2, S.trans h3⟩

def EndOk (E : Env) (g : Ghost) (H : Heap) (w : World) (r : AEnd) (H' : Heap) : Ending → World → Prop
  | .returned v, w' => ∃ x g', r = .ret x ∧ Inv E g' H' w' ∧ Step g H w g' H' w' ∧ Rel g' x v
  | .panicked chain, w' => ∃ x v g', r = .pan x ∧ chain = [{ v, recovered := false }] ∧ Inv E g' H' w' ∧ Step g H w g' H' w' ∧ Rel g' x v
  | .outgrown, _ => False

/-- What a call's abstract run tells is so. -/
def CallOk (E : Env) (call : CallFn) : Prop := ∀ f args H r H', call f args H = some (r, H') → ∀ g w vs, Inv E g H w → RelL g args vs → Calls E.P f vs.toArray w (EndOk E g H w r H')

theorem eval_rel {E : Env} {g : Ghost} {s : St} {a : Act} {w : World} (h : StOk E g s a w) (x : Operand) : Rel g (aval E s.tm x) (a.eval x) := by
  cases x with
  | tmp t =>
    have := h.tm.getD t undef
    simpa [aval, Act.eval, Array.getD_eq_getD_getElem?, List.getD_eq_getElem?_getD] using this
  | const v => exact conv_rel g v
  | global gl =>
    have hall : ∀ i x, (E.glob gl)[i]? = some x → ∃ u, g.st gl i = some u ∧ Rel g x u := fun i x hx => h.inv.glob gl i x hx
    let us : List Value := (List.range (E.glob gl).length).map fun i => (g.st gl i).getD undef
    refine .ep (us := us) (o := 0) (by simp [us]) (fun i x u hx hu => ?_) (fun i u hu => ?_)
    · obtain ⟨u', hu', r⟩ := hall i x hx
      have hi : i < (E.glob gl).length := (List.getElem?_eq_some_iff.1 hx).1
      simp only [us, List.getElem?_map, List.getElem?_range hi, Option.map_some, Option.some.injEq, hu', Option.getD_some] at hu
      rw [← hu]; exact r
    · have hi : i < (E.glob gl).length := by have := (List.getElem?_eq_some_iff.1 hu).1; simpa [us] using this
      obtain ⟨u', hu', r⟩ := hall i _ (List.getElem?_eq_getElem hi)
      simp only [us, List.getElem?_map, List.getElem?_range hi, Option.map_some, Option.some.injEq, hu', Option.getD_some] at hu
      rw [Nat.zero_add, ← hu]; exact hu'
  | func f =>
    exact .fn (u1 := []) (u2 := []) rfl rfl (fun i x u e => by simp at e) (fun i x u e => by simp at e)

theorem put_rel {g : Ghost} {tm : List AV} {a : Act} (h : RelL g tm a.tmps.toList) (d : Option Tmp) {x : AV} {v : Value} (r : Rel g x v) : RelL g (putA tm d x) (a.put d v).tmps.toList := by
  cases d with
  | none => exact h
  | some t =>
    have := h.set t r
    simpa [putA, Act.put] using this

theorem put_defers (a : Act) (d : Option Tmp) (v : Value) : (a.put d v).defers = a.defers := by cases d <;> rfl

theorem StOk.put {E : Env} {g g' : Ghost} {s : St} {a : Act} {w w' : World} {H' : Heap} (h : StOk E g s a w) (I : Inv E g' H' w') (S : Step g s.H w g' H' w') (d : Option Tmp) {x : AV} {v : Value} (r : Rel g' x v) :
    StOk E g' { s with tm := putA s.tm d x, H := H' } (a.put d v) w' :=
  ⟨I, put_rel (h.tm.mono S.le) d r, by rw [put_defers]; exact h.df.mono S.le⟩

theorem wanted_rel {E : Env} {g : Ghost} {s : St} {a : Act} {w : World} (h : StOk E g s a w) {ops : Array Oper} {o : Oper} {b : Bool} (hw : awanted ops s.tm o = some b) :
    Region.wanted o (yielded ops a.tmps) = b := by
  unfold awanted at hw
  unfold Region.wanted
  cases hg : o.guard with
  | none => rw [hg] at hw; simp at hw; simp [hw]
  | some q =>
    obtain ⟨j, want⟩ := q
    rw [hg] at hw
    simp only at hw
    split at hw
    · rename_i t ht
      split at hw
      · rename_i x hx
        obtain ⟨u, hu, r⟩ := h.tm.get hx
        have hy : yielded ops a.tmps j = match u with | .bool b => some b | _ => none := by
          unfold yielded
          rw [ht]
          have : a.tmps[t]? = some u := by simpa using hu
          simp only [Option.bind_some, this]
          cases u <;> rfl
        unfold wantBy at hw
        split at hw
        · cases r
          simp only [Option.some.injEq] at hw
          simp [hy, hw]
        · cases r
          simp only [Option.some.injEq] at hw
          simp [hy, ← hw]
        · cases hw
      · cases hw
    · cases hw

theorem Oper.wp_mono2 {P : Program} {o : Oper} {a : Act} {w : World} {K K' : Act → World → Prop} {Q Q' : Exit → Act → World → Prop} (hK : ∀ a w, K a w → K' a w) (hQ : ∀ e a w, Q e a w → Q' e a w)
    (hh : o.wp P a w K Q) : o.wp P a w K' Q' := by
  unfold Oper.wp at *
  generalize (execOp a.eval o).run P w = r at *
  cases r with
  | ok n w' =>
    cases n <;> simp only [Oper.upon] at hh ⊢ <;>
      first
        | exact hK _ _ hh
        | exact Calls.mono hh (fun e w'' he => by
            cases e with
            | returned v => exact hK _ _ he
            | panicked c => exact hQ _ _ _ he
            | outgrown => obtain ⟨a, w, h⟩ := he; exact ⟨a, w, hQ _ _ _ h⟩)
        | exact Rows.mono hh (fun _ _ he => hK _ _ he)
  | halt x w' => cases x <;> simp only [Oper.upon] at hh ⊢ <;> first | exact hQ _ _ _ hh | exact hh

theorem wpList_mono2 {P : Program} {ops : Array Oper} {Q Q' : Exit → Act → World → Prop} (hQ : ∀ e a w, Q e a w → Q' e a w) : ∀ {l : List Oper} {a : Act} {w : World}, wpList P ops Q l a w → wpList P ops Q' l a w
  | [], a, w, h => hQ _ _ _ h
  | o :: l, a, w, h => by
    unfold wpList at h ⊢
    split
    · rename_i hw
      rw [if_pos hw] at h
      rcases h with h | ⟨h, a0, w0, h0⟩
      · exact .inl (Oper.wp_mono2 (fun a w h => wpList_mono2 hQ h) hQ h)
      · exact .inr ⟨h, a0, w0, hQ _ _ _ h0⟩
    · rename_i hw
      rw [if_neg hw] at h
      exact wpList_mono2 hQ h

section
variable {E : Env} {call : CallFn}

theorem aops_ok (G : E.Good) (hc : CallOk E call) {ops : Array Oper} : ∀ {l : List Oper} {s : St} {r : AExit × St}, aops E call ops l s = some r →
    ∀ {g : Ghost} {a : Act} {w : World}, StOk E g s a w → wpList E.P ops (Post E g s.H w r) l a w
  | [], s, r, h, g, a, w, hs => by
    simp only [aops, Option.some.injEq] at h
    subst h
    exact ⟨g, trivial, hs, .refl _ _ _⟩
  | o :: l, s, r, h, g, a, w, hs => by
    unfold aops at h
    have go : ∀ {g' : Ghost} {s' : St} {a' : Act} {w' : World}, aops E call ops l s' = some r → StOk E g' s' a' w' → Step g s.H w g' s'.H w' → wpList E.P ops (Post E g s.H w r) l a' w' :=
      fun h' hs' S => wpList_mono2 (fun e a w q => Post.step S q) (aops_ok G hc h' hs')
    unfold wpList
    split at h
    · cases h
    · rename_i hw
      rw [if_neg (by rw [wanted_rel hs hw]; simp)]
      exact go h (hs.put hs.inv (.refl _ _ _) o.dst (.v undef)) (.refl _ _ _)
    · rename_i hw
      rw [if_pos (wanted_rel hs hw)]
      refine .inl ?_
      unfold Oper.wp
      split at h
      · rename_i x H1 ho
        obtain ⟨v, w', g', hr, I, S, rx⟩ := aop_ok G hs.inv (eval_rel hs) ho
        rw [hr]
        exact go h (hs.put I S o.dst rx) S
      · rename_i H1 ho
        obtain ⟨w', g', hr, I, S⟩ := aop_ok G hs.inv (eval_rel hs) ho
        rw [hr]
        exact go h (hs.put I S o.dst (.v undef)) S
      · rename_i f cap args H1 ho
        obtain ⟨rfl, capV, argsV, hr, r1, r2⟩ := aop_ok G hs.inv (eval_rel hs) ho
        rw [hr]
        refine go (g' := g) h ⟨hs.inv, ?_, ?_⟩ (.refl _ _ _)
        · have := put_rel (a := { a with defers := { target := .fn f capV.toArray, args := argsV.toArray } :: a.defers }) hs.tm o.dst (Rel.v (g := g) undef)
          exact this
        · rw [put_defers]; exact hs.df.cons r1 r2
      · rename_i f args H1 ho
        obtain ⟨rfl, vs, hr, r1⟩ := aop_ok G hs.inv (eval_rel hs) ho
        rw [hr]
        split at h
        · rename_i x H' hcall
          refine Calls.mono (hc _ _ _ _ _ hcall g w vs hs.inv r1) fun e w' he => ?_
          cases e with
          | returned v =>
            obtain ⟨x', g', hx, I, S, rx⟩ := he
            cases hx
            exact go h (hs.put I S o.dst rx) S
          | panicked chain =>
            obtain ⟨x', v, g', hx, -⟩ := he
            cases hx
          | outgrown => exact he.elim
        · rename_i x H' hcall
          cases h
          refine Calls.mono (hc _ _ _ _ _ hcall g w vs hs.inv r1) fun e w' he => ?_
          cases e with
          | returned v =>
            obtain ⟨x', g', hx, -⟩ := he
            cases hx
          | panicked chain =>
            obtain ⟨x', v, g', hx, hch, I, S, rx⟩ := he
            cases hx
            exact ⟨g', ⟨v, hch, rx⟩, ⟨I, hs.tm.mono S.le, hs.df.mono S.le⟩, S⟩
          | outgrown => exact he.elim
        · cases h
      · rename_i x H1 ho
        cases h
        obtain ⟨rfl, v, hr, rx⟩ := aop_ok G hs.inv (eval_rel hs) ho
        rw [hr]
        exact ⟨g, ⟨v, rfl, rx⟩, hs, .refl _ _ _⟩
      · cases h

end
end Go.AI
end
section
namespace Go.AI
open Go

section
variable {E : Env} {call : CallFn}

/-- What a region that draws its order comes to. -/
def DrawOk (E : Env) (call : CallFn) : Prop := ∀ ops s r, adraw E call ops s = some r → ∀ (g : Ghost) (a : Act) (w : World), StOk E g s a w → ∀ id, (Code.region id ops true).wp E.P (Post E g s.H w r) a w

theorem rounds_mono {P : Program} {c : Code} {Q Q' : Exit → Act → World → Prop} (hQ : ∀ e a w, Q e a w → Q' e a w) : ∀ (n : Nat) (a : Act) (w : World), Code.rounds P c Q n a w → Code.rounds P c Q' n a w
  | 0, _, _, h => h
  | n + 1, a, w, h => by
    rw [rounds_succ] at h ⊢
    refine wp_mono h fun e a w q => ?_
    cases e with
    | normal => exact rounds_mono hQ n a w q
    | _ => exact hQ _ _ _ q

theorem acode_ok (G : E.Good) (hc : CallOk E call) (hD : DrawOk E call) (fuel : Nat) : ∀ {c : Code} {s : St} {r : AExit × St}, acode E call fuel c s = some r →
    ∀ {g : Ghost} {a : Act} {w : World}, StOk E g s a w → c.wp E.P (Post E g s.H w r) a w := by
  intro c
  induction c with
  | skip =>
    intro s r h g a w hs
    cases h
    exact wp_skip ⟨g, trivial, hs, .refl _ _ _⟩
  | label l =>
    intro s r h g a w hs
    cases h
    exact wp_label ⟨g, trivial, hs, .refl _ _ _⟩
  | exit id =>
    intro s r h g a w hs
    cases h
    exact wp_exit ⟨g, rfl, hs, .refl _ _ _⟩
  | ret =>
    intro s r h g a w hs
    cases h
    exact wp_ret ⟨g, trivial, hs, .refl _ _ _⟩
  | region id ops d =>
    intro s r h g a w hs
    unfold acode at h
    split at h
    · rename_i hd
      cases d with
      | true => exact hD _ _ _ h _ _ _ hs id
      | false => cases hd
    · rename_i hd
      cases d with
      | true => exact (hd rfl).elim
      | false => exact wp_region_list (aops_ok G hc h hs)
  | seq x y ix iy =>
    intro s r h g a w hs
    unfold acode at h
    refine wp_seq ?_
    split at h
    · rename_i s1 hx
      refine wp_mono (ix hx hs) fun e a1 w1 q => ?_
      obtain ⟨g1, he, hs1, S⟩ := q
      cases e with
      | normal => exact wp_mono (iy h hs1) fun e a w q => Post.step S q
      | _ => exact he.elim
    · rename_i hne
      refine wp_mono (ix h hs) fun e a1 w1 q => ?_
      cases e with
      | normal =>
        obtain ⟨g1, he, hs1, S⟩ := q
        obtain ⟨r1, r2⟩ := r
        cases r1 with
        | normal => exact (hne r2 h).elim
        | _ => exact he.elim
      | _ => exact q
  | cond c x y ix iy =>
    intro s r h g a w hs
    unfold acode at h
    have rc := eval_rel hs c
    split at h
    · rename_i hcv
      rw [hcv] at rc
      exact wp_cond_true (rel_v rc) (ix h hs)
    · rename_i hcv
      rw [hcv] at rc
      exact wp_cond_false (rel_v rc) (iy h hs)
    · cases h
  | block id b ib =>
    intro s r h g a w hs
    unfold acode at h
    refine wp_block ?_
    split at h
    · rename_i id' s' hx
      refine wp_mono (ib hx hs) fun e a1 w1 q => ?_
      obtain ⟨g1, he, hs1, S⟩ := q
      cases e with
      | exit j =>
        have hj : id' = j := he
        subst hj
        unfold Exit.inBlock
        split at h
        · rename_i hid
          cases h
          simp only [hid, if_true]
          exact ⟨g1, trivial, hs1, S⟩
        · rename_i hid
          cases h
          simp only [hid, if_false]
          exact ⟨g1, rfl, hs1, S⟩
      | _ => exact he.elim
    · rename_i hne
      refine wp_mono (ib h hs) fun e a1 w1 q => ?_
      cases e with
      | exit j =>
        obtain ⟨g1, he, hs1, S⟩ := q
        obtain ⟨r1, r2⟩ := r
        cases r1 with
        | exit id' => exact (hne id' r2 h).elim
        | _ => exact he.elim
      | _ => exact q
  | loop b ib =>
    intro s r h g a w hs
    unfold acode at h
    refine wp_loop_rounds fuel ?_
    have key : ∀ (n : Nat) {s : St} {r : AExit × St}, aloop (acode E call fuel b) n s = some r → ∀ {g : Ghost} {a : Act} {w : World}, StOk E g s a w → Code.rounds E.P b (Post E g s.H w r) n a w := by
      intro n
      induction n with
      | zero => intro s r h; cases h
      | succ n ih =>
        intro s r h g a w hs
        unfold aloop at h
        rw [rounds_succ]
        split at h
        · rename_i s1 hx
          refine wp_mono (ib hx hs) fun e a1 w1 q => ?_
          obtain ⟨g1, he, hs1, S⟩ := q
          cases e with
          | normal => exact rounds_mono (fun e a w q => Post.step S q) n _ _ (ih h hs1)
          | _ => exact he.elim
        · rename_i hne
          refine wp_mono (ib h hs) fun e a1 w1 q => ?_
          cases e with
          | normal =>
            obtain ⟨g1, he, hs1, S⟩ := q
            obtain ⟨r1, r2⟩ := r
            cases r1 with
            | normal => exact (hne r2 h).elim
            | _ => exact he.elim
          | _ => exact q
    exact key fuel h hs
  | _ => intro s r h; simp [acode] at h

end
end Go.AI
end
section
namespace Go.AI
open Go

section
variable {E : Env} {call : CallFn}

theorem aresult_ok {g : Ghost} {s : St} {a : Act} {w : World} (hs : StOk E g s a w) {r : ResultVar} {x : AV} (h : aresult E s r = some x) :
    ∃ v, (match r with | .tmp t => pure (a.tmps.getD t undef) | .cell p t => do loadVar t (← asAddr (a.tmps.getD p undef)) : Sem Value).run E.P w = .ok v w ∧ Rel g x v := by
  have hget : ∀ t, Rel g (s.tm.getD t (.v undef)) (a.tmps.getD t undef) := fun t => by
    have := hs.tm.getD t undef
    simpa [Array.getD_eq_getD_getElem?, List.getD_eq_getElem?_getD] using this
  cases r with
  | tmp t =>
    simp only [aresult, Option.some.injEq] at h
    subst h
    exact ⟨_, rfl, hget t⟩
  | cell p t =>
    simp only [aresult] at h
    have rp := hget p
    split at h
    · rename_i id off hp
      rw [hp] at rp
      split at h
      · rename_i u cs hH
        obtain ⟨b, o, v, hv, hrun, hr⟩ := load_ptr (t := t) (x := x) (a := .ptr id off) hs.inv (by simp only [hH]; exact h) rp
        refine ⟨v, ?_, hr⟩
        simp [hv, asAddr, hrun]
      · cases h
    · cases h

theorem aresultL_ok {g : Ghost} {s : St} {a : Act} {w : World} (hs : StOk E g s a w) : ∀ {rs : List ResultVar} {xs : List AV}, aresultL E s rs = some xs →
    ∃ vs : List Value, (rs.mapM (fun r => (match r with | .tmp t => pure (a.tmps.getD t undef) | .cell p t => do loadVar t (← asAddr (a.tmps.getD p undef)) : Sem Value))).run E.P w = .ok vs w ∧ RelL g xs vs
  | [], xs, h => by
    simp only [aresultL, Option.some.injEq] at h
    subst h
    exact ⟨[], rfl, .nil g⟩
  | r :: rs, xs, h => by
    unfold aresultL at h
    split at h
    · rename_i x xs' h1 h2
      cases h
      obtain ⟨v, e1, r1⟩ := aresult_ok hs h1
      obtain ⟨vs, e2, r2⟩ := aresultL_ok hs h2
      refine ⟨v :: vs, ?_, .cons r1 r2⟩
      rw [List.mapM_cons]
      simp only [Sem.run_bind, e1, e2, Result.andThen_ok, Sem.run_pure]
    · cases h

theorem aresults_ok {g : Ghost} {s : St} {a : Act} {w : World} (hs : StOk E g s a w) {fn : Func} {x : AV} (h : aresults E fn s = some x) :
    ∃ v, (results fn a.tmps).run E.P w = .ok v w ∧ Rel g x v := by
  unfold aresults at h
  have key : ∀ xs, aresultL E s fn.results.toList = some xs → ∃ vs : List Value, (results fn a.tmps).run E.P w = .ok (if h : vs.length = 1 then vs[0] else .tuple vs.toArray) w ∧ RelL g xs vs := by
    intro xs hx
    obtain ⟨vs, e1, r1⟩ := aresultL_ok hs hx
    refine ⟨vs, ?_, r1⟩
    unfold results
    rw [Array.mapM_eq_mapM_toList]
    rw [Sem.run_bind, Sem.run_map]
    erw [e1]
    simp only [Result.andThen_ok, Sem.run_pure, List.size_toArray]
    congr 1
  split at h
  · rename_i y hx
    cases h
    obtain ⟨vs, e1, r1⟩ := key _ hx
    obtain ⟨v, vs', rfl, r2, r3⟩ := r1.cases
    have := r3.nil_of
    subst this
    exact ⟨v, e1, r2⟩
  · rename_i xs hne hx
    cases h
    obtain ⟨vs, e1, r1⟩ := key _ hx
    have hl : ¬ vs.length = 1 := by
      rw [← r1.1]
      intro hl
      obtain ⟨y, hy⟩ := List.length_eq_one_iff.1 hl
      exact hne y hy
    rw [dif_neg hl] at e1
    exact ⟨_, e1, .tup r1.1 r1.2⟩
  · cases h

theorem frame_rel {g : Ghost} {args : List AV} {vs : List Value} (h : RelL g args vs) (n : Nat) : RelL g (args ++ List.replicate (n - args.length) (.v undef)) (vs.toArray ++ Array.replicate (n - vs.toArray.size) undef).toList := by
  have h2 := RelL.replicate (Rel.v (g := g) undef) (n - args.length)
  have := h.append h2
  rw [show (n - vs.toArray.size) = n - args.length by simp [h.1]]
  simpa using this

/-- The mode of the frame whose deferred call runs. -/
def DM (g : Ghost) (d : StD) (u : FrameMode) : Prop := match d.rcd, d.pm with
  | false, some x => ∃ v, u = .panicking [{ v, recovered := false }] ∧ Rel g x v
  | false, none => u = .returning
  | true, none => ∃ v, u = .panicking [{ v, recovered := true }]
  | true, some _ => False

theorem DM.mono {g g' : Ghost} (le : g.Le g') {d d' : StD} {u : FrameMode} (h : DM g d u) (h1 : d'.rcd = d.rcd) (h2 : d'.pm = d.pm) : DM g' d' u := by
  unfold DM at *
  rw [h1, h2]
  revert h
  cases d.rcd <;> cases d.pm
  · exact id
  · rintro ⟨v, h, r⟩; exact ⟨v, h, r.mono le⟩
  · exact id
  · exact id

def PostD (E : Env) (c0 : Frame) (cs : List Frame) (g : Ghost) (H : Heap) (w : World) (r : AExit × StD) (e : Exit) (a : Act) (cs' : List Frame) (w' : World) : Prop :=
  ∃ g' u', ExOk g' r.1 e ∧ StOk E g' r.2.s a w' ∧ Step g H w g' r.2.s.H w' ∧ cs' = { c0 with mode := u' } :: cs ∧ DM g' r.2 u'

theorem PostD.step {c0 : Frame} {cs : List Frame} {g g1 : Ghost} {H H1 : Heap} {w w1 : World} {r : AExit × StD} {e : Exit} {a : Act} {cs' : List Frame} {w' : World} (S : Step g H w g1 H1 w1) (h : PostD E c0 cs g1 H1 w1 r e a cs' w') : PostD E c0 cs g H w r e a cs' w' := by
  obtain ⟨g', u', h1, h2, h3, h4⟩ := h
  exact ⟨g', u', h1, h2, S.trans h3, h4⟩

theorem aopsD_ok (G : E.Good) (hc : CallOk E call) {ops : Array Oper} {c0 : Frame} {cs : List Frame} : ∀ {l : List Oper} {k : Nat}, (∀ j, l[j]? = ops[k + j]?) → ∀ {d : StD} {r : AExit × StD}, aopsD E call ops l d = some r →
    ∀ {g0 g : Ghost} {H0 : Heap} {w0 : World} {a : Act} {w : World} {u : FrameMode}, StOk E g d.s a w → Step g0 H0 w0 g d.s.H w → DM g d u →
    wpOpsS E.P ops (PostD E c0 cs g0 H0 w0 r) (List.range' k l.length) a ({ c0 with mode := u } :: cs) w
  | [], k, hk, d, r, h, g0, g, H0, w0, a, w, u, hs, S, hu => by
    simp only [aopsD, Option.some.injEq] at h
    subst h
    exact ⟨g, u, trivial, hs, S, rfl, hu⟩
  | o :: l, k, hk, d, r, h, g0, g, H0, w0, a, w, u, hs, S, hu => by
    have h0 : ops[k]? = some o := by simpa using (hk 0).symm
    have hk' : ∀ j, l[j]? = ops[k + 1 + j]? := fun j => by have := hk (j + 1); simpa [Nat.add_assoc, Nat.add_comm 1 j] using this
    simp only [List.length_cons, List.range'_succ]
    unfold wpOpsS
    simp only [h0]
    unfold aopsD at h
    split at h
    · cases h
    · rename_i hw
      rw [if_neg (by rw [wanted_rel hs hw]; simp)]
      exact aopsD_ok G hc hk' h (hs.put hs.inv (.refl _ _ _) o.dst (.v undef)) S (hu.mono (.refl g) rfl rfl)
    · rename_i hw
      rw [if_pos (wanted_rel hs hw)]
      split at h
      · rename_i x H1 ho
        obtain ⟨v, w', g', hr, I, S', rx⟩ := aop_ok G hs.inv (eval_rel hs) ho
        rw [hr]
        exact aopsD_ok G hc hk' h (hs.put I S' o.dst rx) (S.trans S') (hu.mono S'.le rfl rfl)
      · rename_i H1 ho
        obtain ⟨w', g', hr, I, S'⟩ := aop_ok G hs.inv (eval_rel hs) ho
        rw [hr]
        exact aopsD_ok G hc hk' h (hs.put I S' o.dst (.v undef)) (S.trans S') (hu.mono S'.le rfl rfl)
      · rename_i H1 ho
        obtain ⟨rfl, hr⟩ := aop_ok G hs.inv (eval_rel hs) ho
        rw [hr]
        split at h
        · rename_i x hpm
          have hu' := hu
          unfold DM at hu'
          rw [hpm] at hu'
          cases hrc : d.rcd with
          | true => rw [hrc] at hu'; exact hu'.elim
          | false =>
            rw [hrc] at hu'
            obtain ⟨v, rfl, rx⟩ := hu'
            simp only [recoverD]
            exact aopsD_ok G hc hk' h (hs.put hs.inv (.refl _ _ _) o.dst rx) S ⟨v, rfl⟩
        · rename_i hpm
          have hu' := hu
          unfold DM at hu'
          rw [hpm] at hu'
          have hrec : recoverD ({ c0 with mode := u } :: cs) = none := by
            cases hrc : d.rcd with
            | true => rw [hrc] at hu'; obtain ⟨v, rfl⟩ := hu'; rfl
            | false => rw [hrc] at hu'; cases hu'; rfl
          simp only [hrec]
          exact aopsD_ok G hc hk' h (hs.put hs.inv (.refl _ _ _) o.dst (.v .nilIface)) S (hu.mono (.refl g) rfl rfl)
      · rename_i f args H1 ho
        obtain ⟨rfl, vs, hr, r1⟩ := aop_ok G hs.inv (eval_rel hs) ho
        rw [hr]
        split at h
        · rename_i x H' hcall
          refine Calls.mono (hc _ _ _ _ _ hcall g w vs hs.inv r1) fun e w' he => ?_
          cases e with
          | returned v =>
            obtain ⟨x', g', hx, I, S', rx⟩ := he
            cases hx
            exact aopsD_ok G hc hk' h (hs.put I S' o.dst rx) (S.trans S') (hu.mono S'.le rfl rfl)
          | panicked chain =>
            obtain ⟨x', v, g', hx, -⟩ := he
            cases hx
          | outgrown => exact he.elim
        · cases h
      · cases h

end
end Go.AI
end
section
namespace Go.AI
open Go

section
variable {E : Env} {call : CallFn}

theorem wpS_mono {P : Program} {c : Code} {Q Q' : Exit → Act → List Frame → World → Prop} {a : Act} {cs : List Frame} {w : World} (h : c.wpS P Q a cs w) (hq : ∀ e a cs w, Q e a cs w → Q' e a cs w) : c.wpS P Q' a cs w :=
  fun b k hb hr => let ⟨e, a', cs', w', q, r⟩ := h b k hb hr; ⟨e, a', cs', w', hq _ _ _ _ q, r⟩

theorem acodeD_plain (G : E.Good) (hc : CallOk E call) (hD : DrawOk E call) (fuel : Nat) {c0 : Frame} {cs : List Frame} {c : Code} {d : StD} {r : AExit × StD}
    (h : ((acode E call fuel c d.s).map fun q => (q.1, { d with s := q.2 })) = some r)
    {g0 g : Ghost} {H0 : Heap} {w0 : World} {a : Act} {w : World} {u : FrameMode} (hs : StOk E g d.s a w) (S : Step g0 H0 w0 g d.s.H w) (hu : DM g d u) :
    c.wpS E.P (PostD E c0 cs g0 H0 w0 r) a ({ c0 with mode := u } :: cs) w := by
  obtain ⟨⟨e, s'⟩, hx, he⟩ := Option.map_eq_some_iff.1 h
  cases he
  refine wpS_of_wp (wp_mono (acode_ok G hc hD fuel hx hs) fun e a w q => ?_)
  obtain ⟨g', h1, h2, h3⟩ := q
  exact ⟨g', u, h1, h2, S.trans h3, rfl, hu.mono h3.le rfl rfl⟩

theorem acodeD_ok (G : E.Good) (hc : CallOk E call) (hD : DrawOk E call) (fuel : Nat) {c0 : Frame} {cs : List Frame} : ∀ {c : Code} {d : StD} {r : AExit × StD}, acodeD E call fuel c d = some r →
    ∀ {g0 g : Ghost} {H0 : Heap} {w0 : World} {a : Act} {w : World} {u : FrameMode}, StOk E g d.s a w → Step g0 H0 w0 g d.s.H w → DM g d u →
    c.wpS E.P (PostD E c0 cs g0 H0 w0 r) a ({ c0 with mode := u } :: cs) w := by
  intro c
  induction c with
  | seq x y ix iy =>
    intro d r h g0 g H0 w0 a w u hs S hu
    unfold acodeD at h
    refine wpS_seq ?_
    split at h
    · rename_i d1 hx
      refine wpS_mono (ix hx hs S hu) fun e a1 cs1 w1 q => ?_
      obtain ⟨g1, u1, he, hs1, S1, rfl, hu1⟩ := q
      cases e with
      | normal => exact iy h hs1 S1 hu1
      | _ => exact he.elim
    · rename_i hne
      refine wpS_mono (ix h hs S hu) fun e a1 cs1 w1 q => ?_
      cases e with
      | normal =>
        obtain ⟨g1, u1, he, hs1, S1, -⟩ := q
        obtain ⟨r1, r2⟩ := r
        cases r1 with
        | normal => exact (hne r2 h).elim
        | _ => exact he.elim
      | _ => exact q
  | cond c x y ix iy =>
    intro d r h g0 g H0 w0 a w u hs S hu
    unfold acodeD at h
    have rc := eval_rel hs c
    split at h
    · rename_i hcv
      rw [hcv] at rc
      exact wpS_cond (t := true) (rel_v rc) (ix h hs S hu)
    · rename_i hcv
      rw [hcv] at rc
      exact wpS_cond (t := false) (rel_v rc) (iy h hs S hu)
    · cases h
  | region id ops dr =>
    intro d r h g0 g H0 w0 a w u hs S hu
    cases dr with
    | true => exact acodeD_plain G hc hD fuel (by simpa [acodeD] using h) hs S hu
    | false =>
      simp only [acodeD] at h
      refine wpS_region ?_
      have := aopsD_ok (c0 := c0) (cs := cs) G hc (ops := ops) (l := ops.toList) (k := 0) (by simp) h hs S hu
      rw [List.range_eq_range']
      simpa using this
  | skip => intro d r h g0 g H0 w0 a w u hs S hu; exact acodeD_plain G hc hD fuel (by simpa only [acodeD] using h) hs S hu
  | block id b ib => intro d r h g0 g H0 w0 a w u hs S hu; exact acodeD_plain G hc hD fuel (by simpa only [acodeD] using h) hs S hu
  | loop b ib => intro d r h g0 g H0 w0 a w u hs S hu; exact acodeD_plain G hc hD fuel (by simpa only [acodeD] using h) hs S hu
  | rangeFunc f p as b i1 i2 => intro d r h g0 g H0 w0 a w u hs S hu; exact acodeD_plain G hc hD fuel (by simpa only [acodeD] using h) hs S hu
  | exit id => intro d r h g0 g H0 w0 a w u hs S hu; exact acodeD_plain G hc hD fuel (by simpa only [acodeD] using h) hs S hu
  | scope b ib => intro d r h g0 g H0 w0 a w u hs S hu; exact acodeD_plain G hc hD fuel (by simpa only [acodeD] using h) hs S hu
  | label l => intro d r h g0 g H0 w0 a w u hs S hu; exact acodeD_plain G hc hD fuel (by simpa only [acodeD] using h) hs S hu
  | goto l => intro d r h g0 g H0 w0 a w u hs S hu; exact acodeD_plain G hc hD fuel (by simpa only [acodeD] using h) hs S hu
  | ret => intro d r h g0 g H0 w0 a w u hs S hu; exact acodeD_plain G hc hD fuel (by simpa only [acodeD] using h) hs S hu
  | refuse y => intro d r h g0 g H0 w0 a w u hs S hu; exact acodeD_plain G hc hD fuel (by simpa only [acodeD] using h) hs S hu

/-- How the frame is left. -/
def ModeOk (g : Ghost) : AMode → FrameMode → Prop
  | .ret, u => u = .returning
  | .pan x, u => ∃ v, u = .panicking [{ v, recovered := false }] ∧ Rel g x v

theorem ModeOk.mono {g g' : Ghost} (le : g.Le g') {m : AMode} {u : FrameMode} (h : ModeOk g m u) : ModeOk g' m u := by
  cases m with
  | ret => exact h
  | pan x => obtain ⟨v, h, r⟩ := h; exact ⟨v, h, r.mono le⟩

theorem dm_start {g : Ghost} {m : AMode} {u : FrameMode} (s : St) : ModeOk g m u → DM g { s := s, pm := (match m with | .ret => none | .pan x => some x), rcd := false } u := by
  cases m with
  | ret => exact fun hu => hu
  | pan x => exact fun hu => hu

theorem adefers_ok (G : E.Good) (hc : CallOk E call) (hD : DrawOk E call) (fuel : Nat) {fn : Func} {tm : List AV} {a : Act} {g0 : Ghost} {H0 : Heap} {w0 : World} : ∀ {df : List (Fn × List AV × List AV)} {m : AMode} {H : Heap} {r : AEnd} {H' : Heap},
    adefers E call fuel fn tm df m H = some (r, H') → ∀ {g : Ghost} {ds : List Deferred} {u : FrameMode} {w : World}, Inv E g H w → RelL g tm a.tmps.toList → DefRel g df ds → ModeOk g m u → Step g0 H0 w0 g H w →
    Leaves E.P fn a.tmps (EndOk E g0 H0 w0 r H') ds u w
  | [], m, H, r, H', h, g, ds, u, w, I, rt, rd, hu, S => by
    have : ds = [] := by have := rd.1; simpa using this.symm
    subst this
    cases m with
    | ret =>
      cases hu
      unfold adefers at h
      obtain ⟨x, hx, he⟩ := Option.map_eq_some_iff.1 h
      cases he
      obtain ⟨v, hv, rv⟩ := aresults_ok (a := { a with defers := [] }) (s := { tm := tm, df := [], H := H }) ⟨I, rt, rd⟩ hx
      exact ⟨v, hv, x, g, rfl, I, S, rv⟩
    | pan x =>
      obtain ⟨v, rfl, rx⟩ := hu
      unfold adefers at h
      cases h
      exact ⟨x, v, g, rfl, rfl, I, S, rx⟩
  | (f, cap, args) :: df, m, H, r, H', h, g, ds, u, w, I, rt, rd, hu, S => by
    cases ds with
    | nil => have := rd.1; simp at this
    | cons d ds =>
      obtain ⟨capV, argsV, rfl, r1, r2⟩ := rd.2 0 f cap args d rfl rfl
      have rd' : DefRel g df ds := ⟨by simpa using rd.1, fun i f c a d e1 e2 => rd.2 (i + 1) f c a d (by simpa using e1) (by simpa using e2)⟩
      cases f with
      | func fid =>
        unfold adefers at h
        split at h
        · rename_i fd c hcode
          obtain ⟨h1, h2, h3⟩ := G.code _ _ _ hcode
          have hrun : u ≠ .run := by
            cases m with
            | ret => cases hu; simp
            | pan x => obtain ⟨v, rfl, -⟩ := hu; simp
          have hinv : (invoke (.fn (.func fid) capV.toArray) argsV.toArray).run E.P w = .ok (.enter fid (argsV ++ capV).toArray) w := by
            have he : argsV.toArray ++ capV.toArray = (argsV ++ capV).toArray := by simp
            simp only [invoke, he]
            simp [callFunc, h1, h2, (by simpa using h3 : ¬ fd.name = "runtime.NumGoroutine")]
          refine leaves_cons hrun hinv (callsD_of_wpS h1 h2 fun c₀ cs hu0 => ?_)
          have hDM := dm_start (aframe E fd (args ++ cap) H) hu
          have hst : StOk E g (aframe E fd (args ++ cap) H) { tmps := (argsV ++ capV).toArray ++ Array.replicate (fd.ntmps - (argsV ++ capV).toArray.size) undef, defers := [] } w :=
            ⟨I, frame_rel (r2.append r1) fd.ntmps, ⟨rfl, fun i f c a d e => by simp [aframe] at e⟩⟩
          have hc0 : c₀ :: cs = { c₀ with mode := u } :: cs := by subst hu0; rfl
          rw [hc0]
          have fin : ∀ d : StD, (match d.s.df, aresults E fd d.s with
              | [], some _ => adefers E call fuel fn tm df d.mode d.s.H
              | _, _ => none) = some (r, H') → ∀ {g' : Ghost} {u' : FrameMode} {a' : Act} {w' : World}, StOk E g' d.s a' w' → Step g H w g' d.s.H w' → DM g' d u' →
              a'.defers = [] ∧ ∃ v, (results fd a'.tmps).run E.P w' = .ok v w' ∧ Leaves E.P fn a.tmps (EndOk E g0 H0 w0 r H') ds (settle u') w' := by
            intro d h g' u' a' w' hs' S' hu'
            split at h
            · rename_i x hdf hx
              obtain ⟨v, hv, -⟩ := aresults_ok hs' hx
              have hd0 : a'.defers = [] := by have := hs'.df.1; rw [hdf] at this; simpa using this.symm
              refine ⟨hd0, v, hv, adefers_ok G hc hD fuel h hs'.inv (rt.mono S'.le) (rd'.mono S'.le) ?_ (S.trans S')⟩
              unfold DM at hu'
              unfold StD.mode
              cases hrc : d.rcd <;> cases hpm : d.pm <;> rw [hrc, hpm] at hu'
              · cases hu'; rfl
              · obtain ⟨v, rfl, rx⟩ := hu'
                exact ⟨v, rfl, rx⟩
              · obtain ⟨v, rfl⟩ := hu'
                rfl
              · exact hu'.elim
            · cases h
          split at h
          · rename_i d hx
            refine wpS_mono (acodeD_ok G hc hD fuel hx hst (.refl _ _ _) hDM) fun e a' cs' w' q => ?_
            obtain ⟨g', u', he, hs', S', rfl, hu'⟩ := q
            obtain ⟨f1, v, f2, f3⟩ := fin d h hs' S' hu'
            cases e with
            | normal => exact ⟨f1, u', rfl, v, f2, f3⟩
            | _ => exact he.elim
          · rename_i d hx
            refine wpS_mono (acodeD_ok G hc hD fuel hx hst (.refl _ _ _) hDM) fun e a' cs' w' q => ?_
            obtain ⟨g', u', he, hs', S', rfl, hu'⟩ := q
            obtain ⟨f1, v, f2, f3⟩ := fin d h hs' S' hu'
            cases e with
            | ret => exact ⟨f1, u', rfl, v, f2, f3⟩
            | _ => exact he.elim
          · cases h
        · cases h
      | _ => simp [adefers] at h

theorem abody_ok (G : E.Good) (hc : CallOk E call) (hD : DrawOk E call) (fuel : Nat) {f : FuncId} {fn : Func} {c : Code} (hcode : E.code f = some (fn, c)) {args : List AV} {H : Heap} {r : AEnd} {H' : Heap}
    (h : abody E call fuel fn c args H = some (r, H')) {g : Ghost} {w : World} {vs : List Value} (I : Inv E g H w) (ra : RelL g args vs) : Calls E.P f vs.toArray w (EndOk E g H w r H') := by
  obtain ⟨h1, h2, -⟩ := G.code _ _ _ hcode
  have hst : StOk E g (aframe E fn args H) { tmps := vs.toArray ++ Array.replicate (fn.ntmps - vs.toArray.size) undef, defers := [] } w :=
    ⟨I, frame_rel ra fn.ntmps, ⟨rfl, fun i f c a d e => by simp [aframe] at e⟩⟩
  refine calls_of_wp_defers h1 h2 ?_
  unfold abody at h
  split at h
  · rename_i s hx
    refine wp_mono (acode_ok G hc hD fuel hx hst) fun e a w' q => ?_
    obtain ⟨g', he, hs, S⟩ := q
    cases e with
    | normal => exact adefers_ok G hc hD fuel h hs.inv hs.tm hs.df rfl S
    | _ => exact he.elim
  · rename_i s hx
    refine wp_mono (acode_ok G hc hD fuel hx hst) fun e a w' q => ?_
    obtain ⟨g', he, hs, S⟩ := q
    cases e with
    | ret => exact adefers_ok G hc hD fuel h hs.inv hs.tm hs.df rfl S
    | _ => exact he.elim
  · rename_i x s hx
    refine wp_mono (acode_ok G hc hD fuel hx hst) fun e a w' q => ?_
    obtain ⟨g', he, hs, S⟩ := q
    cases e with
    | panic chain =>
      obtain ⟨v, rfl, rx⟩ := he
      exact adefers_ok G hc hD fuel h hs.inv hs.tm hs.df ⟨v, rfl, rx⟩ S
    | _ => exact he.elim
  · cases h

/-! ### What nothing leads to any more -/
/-- The objects from number n on are forgotten. -/
def Ghost.cut (g : Ghost) (n : Nat) : Ghost := { g with loc := fun i => if i < n then g.loc i else none, aloc := fun i k => if i < n then g.aloc i k else none }

theorem underL_get {n : Nat} : ∀ {xs : List AV}, AV.underL n xs = true → ∀ (i : Nat) (x : AV), xs[i]? = some x → x.under n = true
  | [], _, i, x, h => by simp at h
  | y :: ys, h, i, x, hx => by
    simp only [AV.underL, Bool.and_eq_true] at h
    cases i with
    | zero => simp only [List.getElem?_cons_zero, Option.some.injEq] at hx; subst hx; exact h.1
    | succ i => exact underL_get h.2 i x (by simpa using hx)

theorem under_rel {g : Ghost} {n : Nat} {x : AV} {u : Value} (r : Rel g x u) : x.under n = true → Rel (g.cut n) x u := by
  induction r with
  | top u => intro _; exact .top u
  | v u => intro _; exact .v u
  | ptr off e =>
    intro h
    simp only [AV.under, decide_eq_true_eq] at h
    exact .ptr off (by simp [Ghost.cut, h, e])
  | sl hn hl _ ha hst ih =>
    intro h
    simp only [AV.under] at h
    exact .sl hn hl (fun i x u e1 e2 => ih i x u e1 e2 (underL_get h i x e1)) ha hst
  | asl e =>
    intro h
    simp only [AV.under, decide_eq_true_eq] at h
    exact .asl (by simp only [Ghost.cut, h, if_true]; exact e)
  | bsl off e hn =>
    intro h
    simp only [AV.under, decide_eq_true_eq] at h
    exact .bsl off (by simp [Ghost.cut, h, e]) hn
  | ap off e =>
    intro h
    simp only [AV.under, decide_eq_true_eq] at h
    exact .ap off (by simp only [Ghost.cut, h, if_true]; exact e)
  | ep hl _ hst ih =>
    intro h
    simp only [AV.under] at h
    exact .ep hl (fun i x u e1 e2 => ih i x u e1 e2 (underL_get h i x e1)) hst
  | fn h1 h2 _ _ i1 i2 =>
    intro h
    simp only [AV.under, Bool.and_eq_true] at h
    exact .fn h1 h2 (fun i x u e1 e2 => i1 i x u e1 e2 (underL_get h.1 i x e1)) (fun i x u e1 e2 => i2 i x u e1 e2 (underL_get h.2 i x e1))
  | ifc _ ih => intro h; exact .ifc (ih (by simpa [AV.under] using h))
  | mp e =>
    intro h
    simp only [AV.under, decide_eq_true_eq] at h
    exact .mp (by simp [Ghost.cut, h, e])
  | agg hl _ ih =>
    intro h
    simp only [AV.under] at h
    exact .agg hl fun i x u e1 e2 => ih i x u e1 e2 (underL_get h i x e1)
  | tup hl _ ih =>
    intro h
    simp only [AV.under] at h
    exact .tup hl fun i x u e1 e2 => ih i x u e1 e2 (underL_get h i x e1)

theorem underL_rel {g : Ghost} {n : Nat} {xs : List AV} {us : List Value} (r : RelL g xs us) (h : AV.underL n xs = true) : RelL (g.cut n) xs us :=
  ⟨r.1, fun i x u e1 e2 => under_rel (r.2 i x u e1 e2) (underL_get h i x e1)⟩

theorem blk_cut {g : Ghost} {n id : Nat} (h : id < n) (o : AObj) : blk (g.cut n) id o = blk g id o := by
  cases o <;> simp [blk, Ghost.cut, h]

theorem underL_of {n : Nat} : ∀ {xs : List AV}, (∀ (i : Nat) (x : AV), xs[i]? = some x → x.under n = true) → AV.underL n xs = true
  | [], _ => rfl
  | y :: ys, h => by
    simp only [AV.underL, Bool.and_eq_true]
    exact ⟨h 0 y rfl, underL_of fun i x hx => h (i + 1) x (by simpa using hx)⟩

theorem under_zero {n : Nat} {x : AV} {g : Ghost} {u : Value} (r : Rel g x u) : x.under 0 = true → x.under n = true := by
  have lst : ∀ {xs : List AV} {us : List Value}, xs.length = us.length → (∀ (i : Nat) (x : AV) (u : Value), xs[i]? = some x → us[i]? = some u → x.under 0 = true → x.under n = true) → AV.underL 0 xs = true → AV.underL n xs = true := by
    intro xs us hl ih h
    refine underL_of fun i x hx => ?_
    have hi : i < us.length := by rw [← hl]; exact (List.getElem?_eq_some_iff.1 hx).1
    exact ih i x _ hx (List.getElem?_eq_getElem hi) (underL_get h i x hx)
  induction r with
  | top u => intro _; rfl
  | v u => intro _; rfl
  | ptr off e => intro h; simp [AV.under] at h
  | asl e => intro h; simp [AV.under] at h
  | bsl off e hn => intro h; simp [AV.under] at h
  | ap off e => intro h; simp [AV.under] at h
  | mp e => intro h; simp [AV.under] at h
  | sl hn hl _ ha hst ih => intro h; simp only [AV.under] at h ⊢; exact lst hl ih h
  | ep hl _ hst ih => intro h; simp only [AV.under] at h ⊢; exact lst hl ih h
  | agg hl _ ih => intro h; simp only [AV.under] at h ⊢; exact lst hl ih h
  | tup hl _ ih => intro h; simp only [AV.under] at h ⊢; exact lst hl ih h
  | ifc _ ih => intro h; simp only [AV.under] at h ⊢; exact ih h
  | fn h1 h2 _ _ i1 i2 => intro h; simp only [AV.under, Bool.and_eq_true] at h ⊢; exact ⟨lst h1 i1 h.1, lst h2 i2 h.2⟩

theorem gc_ok (G : E.Good) {g g' : Ghost} {H H' : Heap} {w w' : World} (I0 : Inv E g H w) (I : Inv E g' H' w') (S : Step g H w g' H' w') (hu : (H'.take H.length).all (·.under H.length) = true) :
    Inv E (g'.cut H.length) (H'.take H.length) w' ∧ Step g H w (g'.cut H.length) (H'.take H.length) w' := by
  have hget : ∀ {id : Nat} {o : AObj}, (H'.take H.length)[id]? = some o → id < H.length ∧ H'[id]? = some o := by
    intro id o h
    rw [List.getElem?_take] at h
    split at h
    · rename_i hid; exact ⟨hid, h⟩
    · cases h
  have hund : ∀ {id : Nat} {o : AObj}, (H'.take H.length)[id]? = some o → o.under H.length = true := fun h => List.all_eq_true.1 hu _ (List.mem_of_getElem? h)
  refine ⟨⟨I.st, ?_, ?_, ?_, ?_, ?_, ?_, ?_⟩, ⟨⟨?_, ?_, ?_⟩, S.size, ?_, ?_, S.fresh, S.os⟩⟩
  · intro b o u id ob h hid
    obtain ⟨hlt, hid⟩ := hget hid
    rw [blk_cut hlt]
    exact I.own _ _ _ _ _ h hid
  · intro id ob hid
    have hun := hund hid
    obtain ⟨hlt, hid⟩ := hget hid
    have ho := I.objs _ _ hid
    cases ob with
    | box t cs =>
      obtain ⟨b, us, h1, h2, h3⟩ := ho
      exact ⟨b, us, by simp [Ghost.cut, hlt, h1], h2, underL_rel h3 hun⟩
    | arr e n fz cs =>
      obtain ⟨b, cap, us, i, cur, fr, h1, h2, h3, h4, h5, h6, h7, h8, h9, h10⟩ := ho
      exact ⟨b, cap, us, i, cur, fr, by simp only [Ghost.cut, hlt, if_true]; exact h1, h2, h3, h4, h5, h6, h7, h8, h9, underL_rel h10 hun⟩
    | map es =>
      obtain ⟨b, ents, clock, h1, h2, h3⟩ := ho
      refine ⟨b, ents, clock, by simp [Ghost.cut, hlt, h1], h2, h3.1, fun i k x m e1 e2 => ⟨(h3.2 i k x m e1 e2).1, under_rel (h3.2 i k x m e1 e2).2 ?_⟩⟩
      exact underL_get hun i x (by simp [e1])
    | dead => trivial
  · intro i j o o' b hi hj hbi hbj
    obtain ⟨li, hi⟩ := hget hi
    obtain ⟨lj, hj⟩ := hget hj
    rw [blk_cut li] at hbi
    rw [blk_cut lj] at hbj
    exact I.dis _ _ _ _ _ hi hj hbi hbj
  · intro id b h
    have h : (if id < H.length then g'.loc id else none) = some b := h
    split at h
    · rename_i hlt
      have hL := S.len
      exact ⟨by rw [List.length_take]; omega, (I.dom _ _ h).2⟩
    · cases h
  · intro id n p h
    have h : (if id < H.length then g'.aloc id n else none) = some p := h
    split at h
    · rename_i hlt
      have hL := S.len
      exact ⟨by rw [List.length_take]; omega, (I.adom _ _ _ h).2⟩
    · cases h
  · intro id e n fz cs hid k p h
    obtain ⟨hlt, hid⟩ := hget hid
    have h : (if id < H.length then g'.aloc id k else none) = some p := h
    rw [if_pos hlt] at h
    exact I.amax _ _ _ _ _ hid k p h
  · intro gl i x hx
    obtain ⟨u, h1, h2⟩ := I.glob gl i x hx
    exact ⟨u, h1, under_rel h2 (under_zero h2 (underL_get (G.glob gl) i x hx))⟩
  · intro i b h
    have hlt := (I0.dom _ _ h).1
    show (if i < H.length then g'.loc i else none) = some b
    rw [if_pos hlt]; exact S.le.loc _ _ h
  · intro i n b h
    have hlt := (I0.adom _ _ _ h).1
    show (if i < H.length then g'.aloc i n else none) = some b
    rw [if_pos hlt]; exact S.le.aloc _ _ _ h
  · exact S.le.st
  · intro b hb hn
    obtain ⟨h1, h2⟩ := S.keep b hb hn
    refine ⟨h1, fun id o hid => ?_⟩
    obtain ⟨hlt, hid⟩ := hget hid
    rw [blk_cut hlt]
    exact h2 _ _ hid
  · rw [List.length_take]
    have hL := S.len
    omega

theorem end_gc (G : E.Good) {g : Ghost} {H H' : Heap} {w : World} (I0 : Inv E g H w) {r : AEnd} {e : Ending} {w' : World} (h : EndOk E g H w r H' e w') : EndOk E g H w (gc H.length (r, H')).1 (gc H.length (r, H')).2 e w' := by
  unfold gc
  split
  · rename_i hc
    simp only [Bool.and_eq_true] at hc
    cases e with
    | returned v =>
      obtain ⟨x, g', rfl, I, S, rx⟩ := h
      obtain ⟨I', S'⟩ := gc_ok G I0 I S hc.2
      exact ⟨x, _, rfl, I', S', under_rel rx hc.1⟩
    | panicked chain =>
      obtain ⟨x, v, g', rfl, hch, I, S, rx⟩ := h
      obtain ⟨I', S'⟩ := gc_ok G I0 I S hc.2
      exact ⟨x, v, _, rfl, hch, I', S', under_rel rx hc.1⟩
    | outgrown => exact h.elim
  · exact h

def OrcOk (E : Env) (orc : Orc) : Prop := ∀ f c, orc f = some c → ∀ args H r H', c f args H = some (r, H') → ∀ g w vs, Inv E g H w → RelL g args vs → Calls E.P f vs.toArray w (EndOk E g H w r H')

/-- The abstract run tells what the model does. -/
theorem acall_ok (G : E.Good) (hDraw : ∀ call, CallOk E call → DrawOk E call) {orc : Orc} (hO : OrcOk E orc) : ∀ n, CallOk E (acall E orc n)
  | 0 => fun f args H r H' h => by cases h
  | n + 1 => fun f args H r H' h g w vs I ra => by
    unfold acall at h
    split at h
    · rename_i c hc
      exact hO f c hc args H r H' h g w vs I ra
    · split at h
      · rename_i fn c hcode
        obtain ⟨⟨r0, H0⟩, hb, he⟩ := Option.map_eq_some_iff.1 h
        have ih := acall_ok G hDraw hO n
        have := abody_ok G ih (hDraw _ ih) n hcode hb I ra
        refine Calls.mono this fun e w' he' => ?_
        have := end_gc G I he'
        rw [he] at this
        exact this
      · cases h

end

end Go.AI
end
section
/-! Regions of which the order is drawn. -/
namespace Go.AI
open Go

/-! ### What must come before what -/
def befF (acc : Array Nat) (o : Oper) : Nat := o.after.foldl (fun s e => if Region.binds .any e then s ||| 2 ^ e.on ||| acc.getD e.on 0 else s) 0

theorem fold_bit (acc : Array Nat) (j : Nat) : ∀ (es : List Edge) (s : Nat), (es.foldl (fun s e => if Region.binds .any e then s ||| 2 ^ e.on ||| acc.getD e.on 0 else s) s).testBit j = true →
    s.testBit j = true ∨ ∃ e ∈ es, Region.binds .any e = true ∧ (e.on = j ∨ (acc.getD e.on 0).testBit j = true)
  | [], s, h => .inl h
  | e :: es, s, h => by
    rw [List.foldl_cons] at h
    rcases fold_bit acc j es _ h with h | ⟨e', he, hb⟩
    · split at h
      · rename_i hbind
        simp only [Nat.testBit_or, Bool.or_eq_true, Nat.testBit_two_pow, decide_eq_true_eq] at h
        rcases h with (h | h) | h
        · exact .inl h
        · exact .inr ⟨e, by simp, hbind, .inl h⟩
        · exact .inr ⟨e, by simp, hbind, .inr h⟩
      · exact .inl h
    · exact .inr ⟨e', by simp [he], hb⟩

theorem bef_list (l : List Oper) : ∀ (acc : Array Nat), (l.foldl (fun acc o => acc.push (befF acc o)) acc).size = acc.size + l.length ∧
    (∀ k, k < acc.size → (l.foldl (fun acc o => acc.push (befF acc o)) acc).getD k 0 = acc.getD k 0) ∧
    ∀ i o, l[i]? = some o → ∃ acc' : Array Nat, acc'.size = acc.size + i ∧ (∀ k, k < acc'.size → (l.foldl (fun acc o => acc.push (befF acc o)) acc).getD k 0 = acc'.getD k 0) ∧
      (l.foldl (fun acc o => acc.push (befF acc o)) acc).getD (acc.size + i) 0 = befF acc' o := by
  induction l with
  | nil => intro acc; exact ⟨by simp, fun k _ => rfl, fun i o h => by simp at h⟩
  | cons q l ih =>
    intro acc
    obtain ⟨h1, h2, h3⟩ := ih (acc.push (befF acc q))
    simp only [List.foldl_cons]
    have hp : ∀ k, k < acc.size → (acc.push (befF acc q)).getD k 0 = acc.getD k 0 := fun k hk => by
      simp only [Array.getD_eq_getD_getElem?, Array.getElem?_push, if_neg (Nat.ne_of_lt hk)]
    refine ⟨by rw [h1]; simp; omega, fun k hk => (h2 k (by simp; omega)).trans (hp k hk), fun i o hio => ?_⟩
    cases i with
    | zero =>
      simp only [List.getElem?_cons_zero, Option.some.injEq] at hio
      subst hio
      refine ⟨acc, rfl, fun k hk => (h2 k (by simp; omega)).trans (hp k hk), ?_⟩
      rw [Nat.add_zero, h2 acc.size (by simp)]
      simp [Array.getD_eq_getD_getElem?]
    | succ i =>
      obtain ⟨acc', e1, e2, e3⟩ := h3 i o (by simpa using hio)
      refine ⟨acc', by rw [e1]; simp; omega, e2, ?_⟩
      rw [← e3]
      congr 1
      simp
      omega

/-- What stands before i stands there by an edge, or before what an edge names. -/
theorem before_bit {ops : Array Oper} {i j : Nat} {o : Oper} (ho : ops[i]? = some o) (hlt : ∀ e ∈ o.after.toList, Region.binds .any e = true → e.on < i) (h : ((Region.before ops).getD i 0).testBit j = true) :
    ∃ e ∈ o.after.toList, Region.binds .any e = true ∧ (e.on = j ∨ ((Region.before ops).getD e.on 0).testBit j = true) := by
  have hb : Region.before ops = ops.toList.foldl (fun acc o => acc.push (befF acc o)) #[] := by
    unfold Region.before
    rw [← Array.foldl_toList]
    rfl
  obtain ⟨-, -, h3⟩ := bef_list ops.toList #[]
  obtain ⟨acc', e1, e2, e3⟩ := h3 i o (by simpa using ho)
  rw [← hb] at e2 e3
  simp only [List.size_toArray, List.length_nil, Nat.zero_add] at e1 e3
  rw [e3] at h
  unfold befF at h
  rw [← Array.foldl_toList] at h
  rcases fold_bit acc' j _ _ h with h | ⟨e, he, hbind, h⟩
  · simp at h
  · refine ⟨e, he, hbind, h.imp id fun h => ?_⟩
    rw [e2 e.on (by rw [e1]; exact hlt e he hbind)]
    exact h

/-! ### What stands in a slot -/
/-- What the last of the listed operations before number n has left in slot t. -/
def seenL (ops : List Oper) (l : List (Bool × AV)) (L : Nat → Bool) : Nat → Nat → AV → AV
  | 0, _, d => d
  | i + 1, t, d => if (ops[i]?).bind (·.dst) = some t ∧ L i = true then ((l[i]?).map (·.2)).getD d else seenL ops l L i t d

theorem seenAt_eq {ops : List Oper} {l : List (Bool × AV)} {tm : List AV} : ∀ (n t : Nat) (d : AV), seenAt ops l tm n t d = seenL ops l (fun _ => true) n t d
  | 0, t, d => rfl
  | i + 1, t, d => by
    unfold seenAt seenL
    rw [← seenAt_eq (tm := tm) i t d]
    split
    · rename_i u hu
      rw [hu]
      by_cases h : u = t
      · simp [h]
      · simp [h]
    · rename_i hu
      rw [hu]
      simp

theorem seenL_congr {ops : List Oper} {l : List (Bool × AV)} {L L' : Nat → Bool} {t : Nat} {d : AV} : ∀ {n : Nat}, (∀ k, k < n → (ops[k]?).bind (·.dst) = some t → L k = L' k) → seenL ops l L n t d = seenL ops l L' n t d
  | 0, _ => rfl
  | i + 1, h => by
    unfold seenL
    rw [seenL_congr (n := i) fun k hk => h k (by omega)]
    by_cases hd : (ops[i]?).bind (·.dst) = some t
    · rw [h i (by omega) hd]
    · simp [hd]

theorem seenL_cut {ops : List Oper} {l : List (Bool × AV)} {L : Nat → Bool} {t : Nat} {d : AV} {i : Nat} : ∀ {n : Nat}, i ≤ n → (∀ k, i ≤ k → k < n → (ops[k]?).bind (·.dst) = some t → L k = false) →
    (∀ k, k < i → (ops[k]?).bind (·.dst) = some t → L k = true) → seenL ops l L n t d = seenL ops l (fun _ => true) i t d
  | 0, hn, _, _ => by
    have : i = 0 := by omega
    subst this; rfl
  | n + 1, hn, h1, h2 => by
    by_cases hi : i = n + 1
    · subst hi
      exact seenL_congr fun k hk hd => h2 k hk hd
    · have hin : i ≤ n := by omega
      unfold seenL
      rw [seenL_cut hin (fun k a b c => h1 k a (by omega) c) h2]
      rw [if_neg]
      · cases i <;> rfl
      · rintro ⟨hd, hL⟩
        rw [h1 n hin (by omega) hd] at hL
        cases hL

theorem seenL_top {ops : List Oper} {l : List (Bool × AV)} {L : Nat → Bool} {t : Nat} {d : AV} {i : Nat} (hd : (ops[i]?).bind (·.dst) = some t) (hL : L i = true) : ∀ {n : Nat}, i < n →
    (∀ k, i < k → k < n → (ops[k]?).bind (·.dst) = some t → L k = false) → seenL ops l L n t d = ((l[i]?).map (·.2)).getD d
  | 0, hn, _ => by omega
  | n + 1, hn, h1 => by
    unfold seenL
    by_cases hi : i = n
    · subst hi
      rw [if_pos ⟨hd, hL⟩]
    · rw [if_neg, seenL_top hd hL (by omega) fun k a b c => h1 k a (by omega) c]
      rintro ⟨hd', hL'⟩
      rw [h1 n (by omega) (by omega) hd'] at hL'
      cases hL'

theorem putA_length (tm : List AV) (d : Option Tmp) (x : AV) : (putA tm d x).length = tm.length := by cases d <;> simp [putA]
theorem putA_getD {tm : List AV} {d : Option Tmp} {x : AV} {t : Nat} (ht : t < tm.length) (z : AV) : (putA tm d x).getD t z = if d = some t then x else tm.getD t z := by
  cases d with
  | none => simp [putA]
  | some u =>
    simp only [putA, List.getD_eq_getElem?_getD, List.getElem?_set]
    by_cases h : u = t
    · subst h; simp [ht]
    · simp [h]

theorem endTm_take {ops : List Oper} {l : List (Bool × AV)} {tm : List AV} (hl : l.length = ops.length) : ∀ n, n ≤ ops.length →
    (((ops.zip l).take n).foldl (fun tm p => putA tm p.1.dst p.2.2) tm).length = tm.length ∧ ∀ t, t < tm.length → ∀ z,
    (((ops.zip l).take n).foldl (fun tm p => putA tm p.1.dst p.2.2) tm).getD t z = seenL ops l (fun _ => true) n t (tm.getD t z)
  | 0, _ => ⟨by simp, fun t ht z => by simp [seenL]⟩
  | n + 1, hn => by
    obtain ⟨h1, h2⟩ := endTm_take (tm := tm) hl n (by omega)
    have ho : n < ops.length := by omega
    have hn' : n < l.length := by omega
    have hz : (ops.zip l)[n]? = some (ops[n], l[n]) := by
      rw [List.getElem?_zip_eq_some]
      exact ⟨List.getElem?_eq_getElem ho, List.getElem?_eq_getElem hn'⟩
    rw [List.take_add_one, hz]
    simp only [Option.toList_some, List.foldl_append, List.foldl_cons, List.foldl_nil]
    refine ⟨by rw [putA_length, h1], fun t ht z => ?_⟩
    rw [putA_getD (by rw [h1]; exact ht), h2 t ht z]
    conv => rhs; unfold seenL
    simp [List.getElem?_eq_getElem ho, List.getElem?_eq_getElem hn']

theorem endTm_get {ops : List Oper} {l : List (Bool × AV)} {tm : List AV} (hl : l.length = ops.length) : (endTm ops l tm).length = tm.length ∧ ∀ t, t < tm.length → ∀ z,
    (endTm ops l tm).getD t z = seenL ops l (fun _ => true) ops.length t (tm.getD t z) := by
  have := endTm_take (tm := tm) hl ops.length (Nat.le_refl _)
  rw [List.take_of_length_le (by simp; omega)] at this
  exact this

/-! ### Which may come next -/
theorem ready_mem {ops : Array Oper} {listed : Array Bool} (hsz : listed.size = ops.size) {i : Nat} (h : i ∈ Region.ready .any ops listed) :
    ∃ o, ops[i]? = some o ∧ i < ops.size ∧ listed.getD i false = false ∧ ∀ e ∈ o.after.toList, Region.binds .any e = true → listed.getD e.on false = true := by
  unfold Region.ready at h
  obtain ⟨h1, h2⟩ := List.mem_filter.1 h
  have hi : i < ops.size := List.mem_range.1 h1
  simp only [Bool.and_eq_true, Bool.not_eq_true'] at h2
  refine ⟨ops[i], Array.getElem?_eq_getElem hi, hi, ?_, fun e he hb => ?_⟩
  · have := h2.1
    rw [Array.getD_eq_getD_getElem?, Array.getElem?_eq_getElem (by omega)] at this ⊢
    exact this
  · have := h2.2
    rw [Array.getElem?_eq_getElem hi] at this
    simp only [Option.map_some, Option.getD_some, Array.all_eq_true_iff_forall_mem] at this
    have := this e (by simpa using he)
    simp only [Bool.or_eq_true, Bool.not_eq_true'] at this
    rcases this with h | h
    · rw [hb] at h; cases h
    · exact h

theorem ready_nil {ops : Array Oper} {listed : Array Bool} (hsz : listed.size = ops.size) (hlt : ∀ i o, ops[i]? = some o → ∀ e ∈ o.after.toList, Region.binds .any e = true → e.on < i) (h : Region.ready .any ops listed = []) :
    ∀ i, i < ops.size → listed.getD i false = true := by
  intro i
  induction i using Nat.strongRecOn with
  | _ i ih =>
    intro hi
    cases hL : listed.getD i false with
    | true => rfl
    | false =>
      exfalso
      have hm : i ∈ Region.ready .any ops listed := by
        unfold Region.ready
        refine List.mem_filter.2 ⟨List.mem_range.2 hi, ?_⟩
        simp only [Bool.and_eq_true, Bool.not_eq_true']
        refine ⟨?_, ?_⟩
        · rw [Array.getD_eq_getD_getElem?, Array.getElem?_eq_getElem (by omega)] at hL ⊢
          exact hL
        · rw [Array.getElem?_eq_getElem hi]
          simp only [Option.map_some, Option.getD_some, Array.all_eq_true_iff_forall_mem]
          intro e he
          cases hb : Region.binds .any e with
          | false => rfl
          | true =>
            have hei := hlt i _ (Array.getElem?_eq_getElem hi) e (by simpa using he) hb
            simp [ih e.on hei (by omega)]
      rw [h] at hm
      cases hm

end Go.AI
end
section
namespace Go.AI
open Go

section
variable {E : Env} {call : CallFn}

structure DrawFacts (ops : Array Oper) : Prop where
  lt : ∀ i o, ops[i]? = some o → ∀ e ∈ o.after.toList, Region.binds .any e = true → e.on < i
  ord : ∀ i o t k q, ops[i]? = some o → t ∈ slotsOf ops o → ops[k]? = some q → q.dst = some t → k = i ∨ ((Region.before ops).getD (max i k) 0).testBit (min i k) = true

theorem draw_facts {ops : Array Oper} (h : drawOk ops = true) : DrawFacts ops := by
  unfold drawOk at h
  simp only [Bool.and_eq_true, List.all_eq_true] at h
  obtain ⟨-, h⟩ := h
  refine ⟨fun i o ho e he hb => ?_, fun i o t k q ho ht hk hq => ?_⟩
  · have := (h (o, i) (List.mk_mem_zipIdx_iff_getElem?.2 (by simpa using ho))).1
    simp only [Array.all_eq_true_iff_forall_mem] at this
    have := this e (by simpa using he)
    simpa [hb] using this
  · have := (h (o, i) (List.mk_mem_zipIdx_iff_getElem?.2 (by simpa using ho))).2 t ht (q, k) (List.mk_mem_zipIdx_iff_getElem?.2 (by simpa using hk))
    simpa [hq] using this

structure DrawInv (E : Env) (ops : Array Oper) (l : List (Bool × AV)) (s : St) (L : Nat → Bool) (g : Ghost) (H : Heap) (a : Act) (w : World) : Prop where
  inv : Inv E g H w
  sz : a.tmps.size = s.tm.length
  slot : ∀ t, t < s.tm.length → Rel g (seenL ops.toList l L ops.size t (s.tm.getD t (.v undef))) (a.tmps.getD t undef)
  df : DefRel g s.df a.defers
  clo : ∀ i j, L i = true → ((Region.before ops).getD i 0).testBit j = true → L j = true

/-- An operation that may come next. -/
structure Next1 (ops : Array Oper) (L : Nat → Bool) (i : Nat) (o : Oper) : Prop where
  get : ops[i]? = some o
  lt : i < ops.size
  new : L i = false
  deps : ∀ e ∈ o.after.toList, Region.binds .any e = true → L e.on = true

theorem next_bf {ops : Array Oper} (F : DrawFacts ops) {L : Nat → Bool} (clo : ∀ i j, L i = true → ((Region.before ops).getD i 0).testBit j = true → L j = true) {i : Nat} {o : Oper} (N : Next1 ops L i o) {j : Nat}
    (h : ((Region.before ops).getD i 0).testBit j = true) : L j = true := by
  obtain ⟨e, he, hb, h⟩ := before_bit N.get (F.lt i o N.get) h
  have hL := N.deps e he hb
  rcases h with h | h
  · rw [← h]; exact hL
  · exact clo _ _ hL h

/-- Who writes a slot that operation i names is listed, where it stands before i alone. -/
theorem next_writers {ops : Array Oper} (F : DrawFacts ops) {L : Nat → Bool} (clo : ∀ i j, L i = true → ((Region.before ops).getD i 0).testBit j = true → L j = true) {i : Nat} {o : Oper} (N : Next1 ops L i o) {t : Tmp} (ht : t ∈ slotsOf ops o) :
    (∀ k, k < i → (ops.toList[k]?).bind (·.dst) = some t → L k = true) ∧ (∀ k, i ≤ k → (ops.toList[k]?).bind (·.dst) = some t → L k = false) := by
  have key : ∀ k, (ops.toList[k]?).bind (·.dst) = some t → k = i ∨ ((Region.before ops).getD (max i k) 0).testBit (min i k) = true := by
    intro k hk
    obtain ⟨q, hq, hd⟩ := Option.bind_eq_some_iff.1 hk
    exact F.ord i o t k q N.get ht (by simpa using hq) hd
  refine ⟨fun k hk hd => ?_, fun k hk hd => ?_⟩
  · rcases key k hd with h | h
    · omega
    · rw [Nat.max_eq_left (by omega), Nat.min_eq_right (by omega)] at h
      exact next_bf F clo N h
  · rcases key k hd with h | h
    · rw [h]; exact N.new
    · cases hL : L k with
      | false => rfl
      | true =>
        rw [Nat.max_eq_right hk, Nat.min_eq_left hk] at h
        have := clo _ _ hL h
        rw [N.new] at this
        cases this

theorem next_seen {ops : Array Oper} (F : DrawFacts ops) {l : List (Bool × AV)} {s : St} {L : Nat → Bool} {g : Ghost} {H : Heap} {a : Act} {w : World} (D : DrawInv E ops l s L g H a w) {i : Nat} {o : Oper} (N : Next1 ops L i o) {t : Tmp} (ht : t ∈ slotsOf ops o)
    (htl : t < s.tm.length) : Rel g (seenAt ops.toList l s.tm i t (s.tm.getD t (.v undef))) (a.tmps.getD t undef) := by
  obtain ⟨h1, h2⟩ := next_writers F D.clo N ht
  rw [seenAt_eq, ← seenL_cut (L := L) (n := ops.size) (Nat.le_of_lt N.lt) (fun k hk _ hd => h2 k hk hd) h1]
  exact D.slot t htl

theorem next_rho {ops : Array Oper} (F : DrawFacts ops) {l : List (Bool × AV)} {s : St} {L : Nat → Bool} {g : Ghost} {H : Heap} {a : Act} {w : World} (D : DrawInv E ops l s L g H a w) {i : Nat} {o : Oper} (N : Next1 ops L i o) (x : Operand) :
    Rel g (rhoAt E ops l s.tm i o x) (a.eval x) := by
  cases x with
  | tmp t =>
    simp only [rhoAt]
    split
    · rename_i h
      exact next_seen F D N (List.contains_iff_mem.1 h.2) h.1
    · exact .top _
  | const v => exact conv_rel g v
  | global gl => exact eval_rel (s := { tm := [], df := [], H := H }) (a := { tmps := #[], defers := [] }) ⟨D.inv, .nil g, ⟨rfl, fun i f c a d e => by simp at e⟩⟩ (.global gl)
  | func f => exact .fn (u1 := []) (u2 := []) rfl rfl (fun i x u e => by simp at e) (fun i x u e => by simp at e)

theorem next_wanted {ops : Array Oper} (F : DrawFacts ops) {l : List (Bool × AV)} {s : St} {L : Nat → Bool} {g : Ghost} {H : Heap} {a : Act} {w : World} (D : DrawInv E ops l s L g H a w) {i : Nat} {o : Oper} (N : Next1 ops L i o) {b : Bool}
    (h : wantAt ops l s.tm i o = some b) : Region.wanted o (yielded ops a.tmps) = b := by
  unfold wantAt at h
  unfold Region.wanted
  cases hg : o.guard with
  | none => rw [hg] at h; simp at h; simp [h]
  | some q =>
    obtain ⟨j, want⟩ := q
    rw [hg] at h
    simp only at h
    split at h
    · rename_i t ht
      split at h
      · rename_i htl
        have r := next_seen F D N (t := t) (by unfold slotsOf; rw [hg]; simp [ht]) htl
        have hu : a.tmps[t]? = some (a.tmps.getD t undef) := by
          rw [Array.getD_eq_getD_getElem?, Array.getElem?_eq_getElem (by rw [D.sz]; exact htl)]
          rfl
        generalize a.tmps.getD t undef = u at r hu
        have hy : yielded ops a.tmps j = match u with | .bool b => some b | _ => none := by
          unfold yielded
          rw [ht]
          simp only [Option.bind_some, hu]
          cases u <;> rfl
        unfold wantBy at h
        split at h
        · rename_i c hc
          rw [hc] at r
          cases r
          simp only [Option.some.injEq] at h
          simp [hy, h]
        · rename_i vs hc
          rw [hc] at r
          cases r
          simp only [Option.some.injEq] at h
          simp [hy, ← h]
        · cases h
      · cases h
    · cases h

/-- It has been done. -/
theorem next_put {ops : Array Oper} (F : DrawFacts ops) {l : List (Bool × AV)} {s : St} {L : Nat → Bool} {g : Ghost} {H : Heap} {a : Act} {w : World} (D : DrawInv E ops l s L g H a w) {i : Nat} {o : Oper} (N : Next1 ops L i o)
    {g' : Ghost} {H' : Heap} {w' : World} (I : Inv E g' H' w') (S : Step g H w g' H' w') {b : Bool} {x : AV} (hl : l[i]? = some (b, x)) {v : Value} (r : Rel g' x v) :
    DrawInv E ops l s (fun k => L k || k == i) g' H' (a.put o.dst v) w' := by
  have hput : ∀ t, t < s.tm.length → (a.put o.dst v).tmps.getD t undef = if o.dst = some t then v else a.tmps.getD t undef := by
    intro t ht
    cases hd : o.dst with
    | none => simp [Act.put]
    | some d =>
      simp only [Act.put, Array.getD_eq_getD_getElem?, Array.getElem?_setIfInBounds]
      by_cases h : d = t
      · subst h; simp [D.sz, ht]
      · simp [h]
  have hdst : (ops.toList[i]?).bind (·.dst) = o.dst := by
    have : ops.toList[i]? = some o := by simpa using N.get
    rw [this]; rfl
  refine ⟨I, ?_, fun t ht => ?_, ?_, fun k j hk hj => ?_⟩
  · cases hd : o.dst with
    | none => exact D.sz
    | some d => simp [Act.put, D.sz]
  · rw [hput t ht]
    split
    · rename_i hd
      obtain ⟨-, h2⟩ := next_writers F D.clo N (t := t) (by unfold slotsOf; simp [hd])
      rw [seenL_top (i := i) (by rw [hdst]; exact hd) (by simp) N.lt (fun k h1 _ h3 => by
        have := h2 k (by omega) h3
        have hne : ¬ k = i := by omega
        simp [this, hne]), hl]
      exact r
    · rename_i hd
      rw [seenL_congr (L' := L) fun k _ hk => by
        by_cases hki : k = i
        · subst hki; rw [hdst] at hk; exact (hd hk).elim
        · simp [hki]]
      exact (D.slot t ht).mono S.le
  · rw [put_defers]; exact D.df.mono S.le
  · simp only [Bool.or_eq_true, beq_iff_eq] at hk ⊢
    rcases hk with hk | rfl
    · exact .inl (D.clo _ _ hk hj)
    · exact .inl (next_bf F D.clo N hj)

/-- One step. -/
theorem next_step (G : E.Good) (hc : CallOk E call) {ops : Array Oper} (F : DrawFacts ops) {l : List (Bool × AV)} {s : St} {L : Nat → Bool} {g : Ghost} {H : Heap} {a : Act} {w : World} (D : DrawInv E ops l s L g H a w) {i : Nat} {o : Oper} (N : Next1 ops L i o)
    {H' : Heap} (h : stepsAt E call ops l s.tm i H = some H') {Q : Exit → Act → World → Prop} {K : Act → World → Prop}
    (hK : ∀ g' a' w', DrawInv E ops l s (fun k => L k || k == i) g' H' a' w' → Step g H w g' H' w' → K a' w') : wpOp E.P ops Q i K a w := by
  unfold wpOp
  simp only [N.get]
  unfold stepsAt at h
  rw [N.get] at h
  split at h
  · rename_i o' b x ho hl
    cases ho
    split at h
    · cases h
    · rename_i hw
      rw [if_neg (by rw [next_wanted F D N hw]; simp)]
      split at h
      · rename_i hx
        cases h
        have := G.same _ _ hx
        subst this
        exact hK g _ w (next_put F D N D.inv (.refl _ _ _) hl (.v undef)) (.refl _ _ _)
      · cases h
    · rename_i hw
      rw [if_pos (next_wanted F D N hw)]
      refine .inl ?_
      unfold Oper.wp
      split at h
      · rename_i y H1 ho
        obtain ⟨v, w', g', hr, I, S, ry⟩ := aop_ok G D.inv (next_rho F D N) ho
        rw [hr]
        split at h
        · rename_i hx
          cases h
          have := G.same _ _ hx
          subst this
          exact hK g' _ w' (next_put F D N I S hl ry) S
        · cases h
      · rename_i H1 ho
        obtain ⟨w', g', hr, I, S⟩ := aop_ok G D.inv (next_rho F D N) ho
        rw [hr]
        split at h
        · rename_i hx
          cases h
          have := G.same _ _ hx
          subst this
          exact hK g' _ w' (next_put F D N I S hl (.v undef)) S
        · cases h
      · rename_i f args H1 ho
        obtain ⟨rfl, vs, hr, r1⟩ := aop_ok G D.inv (next_rho F D N) ho
        rw [hr]
        split at h
        · rename_i y H2 hcall
          split at h
          · rename_i hx
            cases h
            have := G.same _ _ hx
            subst this
            refine Calls.mono (hc _ _ _ _ _ hcall g w vs D.inv r1) fun e w' he => ?_
            cases e with
            | returned v =>
              obtain ⟨x', g', hx', I, S, rx⟩ := he
              cases hx'
              exact hK g' _ w' (next_put F D N I S hl rx) S
            | panicked chain =>
              obtain ⟨x', v, g', hx', -⟩ := he
              cases hx'
            | outgrown => exact he.elim
          · cases h
        · cases h
      · cases h
  · cases h

end
end Go.AI
end
section
namespace Go.AI
open Go

section
variable {E : Env} {call : CallFn}

theorem known_eq {G : E.Good} {es : List Entry} {g : FuncId} {args : List AV} {H : Heap} {r : AEnd × Heap} (hes : ∀ e ∈ es, call e.g e.args e.H = some e.r) (h : known E g args H es = some r) : call g args H = some r := by
  induction es with
  | nil => cases h
  | cons e es ih =>
    unfold known at h
    split at h
    · rename_i hc
      cases h
      simp only [Bool.and_eq_true, beq_iff_eq] at hc
      obtain ⟨⟨h1, h2⟩, h3⟩ := hc
      have e1 : e.args = args := by
        have : ∀ (xs ys : List AV), sameL E.same xs ys = true → xs = ys := by
          intro xs
          induction xs with
          | nil => intro ys h; cases ys with
            | nil => rfl
            | cons y ys => simp [sameL] at h
          | cons x xs ih2 => intro ys h; cases ys with
            | nil => simp [sameL] at h
            | cons y ys =>
              simp only [sameL, Bool.and_eq_true] at h
              rw [G.same _ _ h.1, ih2 ys h.2]
        exact this _ _ h2
      rw [← h1, ← e1, ← G.sameH _ _ h3]
      exact hes e (by simp)
    · exact ih (fun e he => hes e (by simp [he])) h

theorem recall_ok (G : E.Good) (hc : CallOk E call) {es : List Entry} (hes : ∀ e ∈ es, call e.g e.args e.H = some e.r) : CallOk E (recall E call es) := by
  intro f args H r H' h
  refine hc f args H r H' ?_
  unfold recall at h
  split at h
  · rename_i q hk
    cases h
    exact known_eq (G := G) hes hk
  · exact h

theorem acanon_entries {ops : Array Oper} : ∀ {os : List Oper} {s : St}, ∀ e ∈ (acanon E call ops os s).1, call e.g e.args e.H = some e.r
  | [], s, e, he => by simp [acanon] at he
  | o :: r, s, e, he => by
    unfold acanon at he
    split at he
    · cases he
    · exact acanon_entries e he
    · split at he
      · exact acanon_entries e he
      · exact acanon_entries e he
      · split at he
        · rename_i g args H1 ha x H' hcall
          rcases List.mem_cons.1 he with rfl | he
          · exact hcall
          · exact acanon_entries e he
        · rename_i g args H1 ha x H' hcall
          simp only [List.mem_singleton] at he
          subst he
          exact hcall
        · cases he
      · cases he

/-! ### Every order -/
def lis (listed : Array Bool) (i : Nat) : Bool := listed.getD i false

theorem lis_set {listed : Array Bool} {i : Nat} (hi : i < listed.size) : lis (listed.setIfInBounds i true) = fun k => lis listed k || k == i := by
  funext k
  unfold lis
  simp only [Array.getD_eq_getD_getElem?, Array.getElem?_setIfInBounds]
  by_cases h : i = k
  · subst h; simp [hi]
  · have : (k == i) = false := by simp; omega
    simp [h, this]

theorem filter_set {listed : Array Bool} {i : Nat} (hi : i < listed.size) (l : List Nat) (hn : l.Nodup) : l.filter (fun e => !lis (listed.setIfInBounds i true) e) = (l.filter fun e => !lis listed e).erase i := by
  rw [lis_set hi, List.Nodup.erase_eq_filter (hn.filter _), List.filter_filter]
  congr 1
  funext e
  by_cases h : e = i
  · simp [h]
  · have h1 : (e == i) = false := by simp [h]
    simp [bne, h1]

theorem not_listed_pos {listed : Array Bool} {n i : Nat} (hi : i < n) (h : lis listed i = false) : i ∈ (List.range n).filter fun e => !lis listed e := by
  simp [hi, h]

theorem next_of {ops : Array Oper} {listed : Array Bool} (hsz : listed.size = ops.size) {i : Nat} (h : i ∈ Region.ready .any ops listed) : ∃ o, Next1 ops (lis listed) i o := by
  obtain ⟨o, h1, h2, h3, h4⟩ := ready_mem hsz h
  exact ⟨o, h1, h2, h3, h4⟩

theorem effs_mem {P : Program} {ops : Array Oper} {i : Nat} : i ∈ effs P ops ↔ i < ops.size ∧ ((ops[i]?).map (isEff P)).getD false = true := by
  simp [effs]

theorem eff_bool {P : Program} {ops : Array Oper} {i : Nat} (hi : i < ops.size) : ((ops[i]?).map (isEff P)).getD true = ((ops[i]?).map (isEff P)).getD false := by
  rw [Array.getElem?_eq_getElem hi]; rfl

theorem atree_next {ops : Array Oper} (F : DrawFacts ops) {l : List (Bool × AV)} {tm : List AV} {Hend : Heap} {f : Nat} {listed : Array Bool} {H : Heap} {i : Nat} {o : Oper} (N : Next1 ops (lis listed) i o)
    (clo : ∀ i j, lis listed i = true → ((Region.before ops).getD i 0).testBit j = true → lis listed j = true) (hsz : listed.size = ops.size) (hG : ∀ x y, E.sameH x y = true → x = y)
    (h : atree E call ops (Region.before ops) l tm Hend f ((effs E.P ops).filter fun e => !lis listed e) H = true) :
    ∃ H' f', stepsAt E call ops l tm i H = some H' ∧ atree E call ops (Region.before ops) l tm Hend f' ((effs E.P ops).filter fun e => !lis (listed.setIfInBounds i true) e) H' = true := by
  have h0 := h
  cases f with
  | zero => cases h
  | succ f =>
    unfold atree at h
    simp only [Bool.and_eq_true] at h
    obtain ⟨⟨hq, he⟩, -⟩ := h
    have hrem : ∀ e ∈ (effs E.P ops).filter (fun e => !lis listed e), ¬ (((Region.before ops).getD i 0).testBit e = true) := by
      intro e hm hb
      have := next_bf F clo N hb
      have hm := (List.mem_filter.1 hm).2
      rw [this] at hm
      cases hm
    have hany : (((effs E.P ops).filter fun e => !lis listed e).any fun e => ((Region.before ops).getD i 0).testBit e) = false := by
      rw [List.any_eq_false]
      exact hrem
    have hf := filter_set (listed := listed) (i := i) (by rw [hsz]; exact N.lt) (effs E.P ops) ((List.nodup_range).filter _)
    by_cases heff : ((ops[i]?).map (isEff E.P)).getD false = true
    · have him : i ∈ (effs E.P ops).filter fun e => !lis listed e := List.mem_filter.2 ⟨effs_mem.2 ⟨N.lt, heff⟩, by simp [N.new]⟩
      have := List.all_eq_true.1 he i him
      rw [hany, Bool.false_or] at this
      split at this
      · rename_i H' hs
        exact ⟨H', f, hs, by rw [hf]; exact this⟩
      · cases this
    · have := List.all_eq_true.1 hq i (List.mem_range.2 N.lt)
      rw [eff_bool N.lt, hany] at this
      have hthird : ((List.range ops.size).any fun e => ((ops[e]?).map (isEff E.P)).getD false && !((effs E.P ops).filter fun e => !lis listed e).contains e && ((Region.before ops).getD e 0).testBit i) = false := by
        rw [List.any_eq_false]
        intro e hem hb
        simp only [Bool.and_eq_true, Bool.not_eq_true'] at hb
        obtain ⟨⟨h1, h2⟩, h3⟩ := hb
        have hL : lis listed e = true := by
          cases hL : lis listed e with
          | true => rfl
          | false =>
            have : e ∈ (effs E.P ops).filter fun e => !lis listed e := List.mem_filter.2 ⟨effs_mem.2 ⟨List.mem_range.1 hem, h1⟩, by simp [hL]⟩
            have := List.contains_iff_mem.2 this
            rw [h2] at this
            cases this
        have := clo _ _ hL h3
        rw [N.new] at this
        cases this
      rw [hthird] at this
      simp only [Bool.or_false, Bool.or_eq_true] at this
      rcases this with h | h
      · exact (heff h).elim
      · split at h
        · rename_i H' hs
          have := hG _ _ h
          subst this
          refine ⟨H', f + 1, hs, ?_⟩
          rw [hf, List.erase_of_not_mem]
          · exact h0
          · intro hm
            exact heff (effs_mem.1 (List.mem_filter.1 hm).1).2
        · cases h

theorem draw_end {ops : Array Oper} {l : List (Bool × AV)} (hl : l.length = ops.size) {s : St} {L : Nat → Bool} {g : Ghost} {H : Heap} {a : Act} {w : World} (D : DrawInv E ops l s L g H a w) (hall : ∀ i, i < ops.size → L i = true) :
    StOk E g { s with tm := endTm ops.toList l s.tm, H := H } a w := by
  obtain ⟨h1, h2⟩ := endTm_get (ops := ops.toList) (l := l) (tm := s.tm) (by simpa using hl)
  refine ⟨D.inv, ⟨by rw [h1]; simpa using D.sz.symm, fun t x u hx hu => ?_⟩, D.df⟩
  have ht : t < s.tm.length := by rw [← h1]; exact (List.getElem?_eq_some_iff.1 hx).1
  have r := D.slot t ht
  rw [seenL_congr (L' := fun _ => true) fun k hk _ => hall k hk] at r
  have e1 : (endTm ops.toList l s.tm).getD t (.v undef) = x := by rw [List.getD_eq_getElem?_getD, hx]; rfl
  have e2 : a.tmps.getD t undef = u := by
    rw [Array.getD_eq_getD_getElem?, ← Array.getElem?_toList, hu]; rfl
  rw [h2 t ht, Array.length_toList] at e1
  rw [e1, e2] at r
  exact r

theorem range_nodup_filter (n : Nat) (p : Nat → Bool) : ((List.range n).filter p).Nodup := List.nodup_range.filter _

theorem any_ok (G : E.Good) (hc : CallOk E call) {ops : Array Oper} (F : DrawFacts ops) {l : List (Bool × AV)} (hl : l.length = ops.size) {s : St} {Hend : Heap} {g0 : Ghost} {w0 : World} : ∀ (fuel : Nat) {listed : Array Bool} {g : Ghost} {H : Heap} {a : Act} {w : World},
    listed.size = ops.size → ((List.range ops.size).filter fun e => !lis listed e).length ≤ fuel → DrawInv E ops l s (lis listed) g H a w →
    (∃ f, atree E call ops (Region.before ops) l s.tm Hend f ((effs E.P ops).filter fun e => !lis listed e) H = true) → Step g0 s.H w0 g H w →
    wpAny E.P .any ops (Post E g0 s.H w0 (.normal, { s with tm := endTm ops.toList l s.tm, H := Hend })) fuel listed a w := by
  intro fuel
  have done : ∀ {listed : Array Bool} {g : Ghost} {H : Heap} {a : Act} {w : World}, DrawInv E ops l s (lis listed) g H a w →
    (∃ f, atree E call ops (Region.before ops) l s.tm Hend f ((effs E.P ops).filter fun e => !lis listed e) H = true) → Step g0 s.H w0 g H w → (∀ i, i < ops.size → lis listed i = true) →
    Post E g0 s.H w0 (.normal, { s with tm := endTm ops.toList l s.tm, H := Hend }) .normal a w := by
    intro listed g H a w D ht S hall
    obtain ⟨f, ht⟩ := ht
    have hem : (effs E.P ops).filter (fun e => !lis listed e) = [] := by
      rw [List.filter_eq_nil_iff]
      intro e he
      simp [hall e (effs_mem.1 he).1]
    rw [hem] at ht
    have : H = Hend := by
      cases f with
      | zero => cases ht
      | succ f =>
        unfold atree at ht
        simp only [Bool.and_eq_true] at ht
        exact G.sameH _ _ (by simpa using ht.2)
    subst this
    exact ⟨g, trivial, draw_end hl D hall, S⟩
  induction fuel with
  | zero =>
    intro listed g H a w hsz hn D ht S
    have hall : ∀ i, i < ops.size → lis listed i = true := by
      intro i hi
      cases hL : lis listed i with
      | true => rfl
      | false =>
        have := not_listed_pos hi hL
        rw [List.eq_nil_of_length_eq_zero (Nat.le_zero.1 hn)] at this
        cases this
    refine ⟨?_, done D ht S hall⟩
    cases hr : Region.ready .any ops listed with
    | nil => rfl
    | cons i is =>
      obtain ⟨o, N⟩ := next_of hsz (i := i) (by rw [hr]; simp)
      have := hall i N.lt
      rw [N.new] at this
      cases this
  | succ fuel ih =>
    intro listed g H a w hsz hn D ht S
    refine ⟨fun hr => done D ht S (ready_nil hsz F.lt hr), fun i hi => ?_⟩
    obtain ⟨o, N⟩ := next_of hsz hi
    obtain ⟨f, ht⟩ := ht
    obtain ⟨H', f', hs, ht'⟩ := atree_next F N D.clo hsz G.sameH ht
    refine next_step G hc F D N hs fun g' a' w' D' S' => ?_
    have hi' : i < listed.size := by rw [hsz]; exact N.lt
    refine ih (by simpa using hsz) ?_ (by rw [lis_set hi']; exact D') ⟨f', ht'⟩ (S.trans S')
    rw [filter_set hi' _ List.nodup_range, List.length_erase_of_mem (not_listed_pos N.lt N.new)]
    omega

theorem draw_start {ops : Array Oper} {l : List (Bool × AV)} {s : St} {g : Ghost} {a : Act} {w : World} (hs : StOk E g s a w) : DrawInv E ops l s (lis (Array.replicate ops.size false)) g s.H a w := by
  have hno : ∀ i, lis (Array.replicate ops.size false) i = false := by
    intro i
    unfold lis
    rw [Array.getD_eq_getD_getElem?, Array.getElem?_replicate]
    split <;> rfl
  refine ⟨hs.inv, by have := hs.tm.1; simp at this; omega, fun t ht => ?_, hs.df, fun i j h => by rw [hno] at h; cases h⟩
  rw [seenL_cut (i := 0) (Nat.zero_le _) (fun k _ _ _ => hno k) (fun k hk => by omega)]
  have := hs.tm.getD t undef
  simpa [seenL, Array.getD_eq_getD_getElem?, List.getD_eq_getElem?_getD] using this

theorem StOk.drew {g : Ghost} {s : St} {a : Act} {w w' : World} (hs : StOk E g s a w) (h : w'.heap = w.heap) (hos : w'.os = w.os ∧ w'.output = w.output := by first | exact ⟨rfl, rfl⟩ | (simp [*]; done)) : StOk E g s a w' ∧ Step g s.H w g s.H w' :=
  ⟨⟨(hs.inv.same h hos).1, hs.tm, hs.df⟩, (hs.inv.same h hos).2⟩

/-- A region of which the order is drawn, and nothing panics. -/
theorem adraw_normal (G : E.Good) (hm : E.P.follows .mixedOrders = true) (hc : CallOk E call) {ops : Array Oper} (F : DrawFacts ops) {l : List (Bool × AV)} (hl : l.length = ops.size) {s : St} {Hend : Heap} {f : Nat}
    (ht : atree E call ops (Region.before ops) l s.tm Hend f (effs E.P ops) s.H = true) {g : Ghost} {a : Act} {w : World} (hs : StOk E g s a w) (id : Nat) :
    (Code.region id ops true).wp E.P (Post E g s.H w (.normal, { s with tm := endTm ops.toList l s.tm, H := Hend })) a w := by
  refine wp_region_any hm ?_
  obtain ⟨hs', S⟩ := hs.drew (w' := { w with drawn := w.drawn + 1 }) rfl
  refine any_ok G hc F hl ops.size (by simp) ?_ (draw_start hs') ⟨f, ?_⟩ S
  · exact Nat.le_trans (List.length_filter_le _ _) (by simp)
  · have hno : ∀ i, lis (Array.replicate ops.size false) i = false := by
      intro i
      unfold lis
      rw [Array.getD_eq_getD_getElem?, Array.getElem?_replicate]
      split <;> rfl
    have : (effs E.P ops).filter (fun e => !lis (Array.replicate ops.size false) e) = effs E.P ops := by
      rw [List.filter_eq_self]
      intro e _
      simp [hno]
    rw [this]; exact ht

/-! ### The first that acts panics -/
theorem seen_top {ops : List Oper} {t : Nat} {d : AV} : ∀ (n m : Nat), n ≤ m → seenL ops (List.replicate m (true, .top)) (fun _ => true) n t d = .top ∨ ∀ k, k < n → (ops[k]?).bind (·.dst) ≠ some t
  | 0, m, _ => .inr fun k hk => by omega
  | n + 1, m, h => by
    unfold seenL
    by_cases hd : (ops[n]?).bind (·.dst) = some t
    · left
      rw [if_pos ⟨hd, rfl⟩]
      simp [List.getElem?_replicate, show n < m by omega]
    · rw [if_neg (fun h => hd h.1)]
      rcases seen_top (t := t) (d := d) n m (by omega) with h | h
      · exact .inl h
      · refine .inr fun k hk => ?_
        by_cases hkn : k = n
        · subst hkn; exact hd
        · exact h k (by omega)

theorem seen_none {ops : List Oper} {l : List (Bool × AV)} {L : Nat → Bool} {t : Nat} {d : AV} : ∀ (n : Nat), (∀ k, k < n → (ops[k]?).bind (·.dst) ≠ some t) → seenL ops l L n t d = d
  | 0, _ => rfl
  | n + 1, h => by
    unfold seenL
    rw [if_neg (fun q => h n (by omega) q.1)]
    exact seen_none n fun k hk => h k (by omega)

theorem draw_pan {ops : Array Oper} {l : List (Bool × AV)} {s : St} {L : Nat → Bool} {g g' : Ghost} {H H' : Heap} {a : Act} {w w' : World} (D : DrawInv E ops l s L g H a w) (I : Inv E g' H' w') (le : g.Le g') :
    StOk E g' { s with tm := endTm ops.toList (List.replicate ops.size (true, .top)) s.tm, H := H' } a w' := by
  obtain ⟨h1, h2⟩ := endTm_get (ops := ops.toList) (l := List.replicate ops.size (true, AV.top)) (tm := s.tm) (by simp)
  refine ⟨I, ⟨by rw [h1]; simpa using D.sz.symm, fun t x u hx hu => ?_⟩, D.df.mono le⟩
  have ht : t < s.tm.length := by rw [← h1]; exact (List.getElem?_eq_some_iff.1 hx).1
  have e1 : (endTm ops.toList (List.replicate ops.size (true, .top)) s.tm).getD t (.v undef) = x := by rw [List.getD_eq_getElem?_getD, hx]; rfl
  have e2 : a.tmps.getD t undef = u := by
    rw [Array.getD_eq_getD_getElem?, ← Array.getElem?_toList, hu]; rfl
  rw [h2 t ht, Array.length_toList] at e1
  rcases seen_top (ops := ops.toList) (t := t) (d := s.tm.getD t (.v undef)) ops.size ops.size (Nat.le_refl _) with h | h
  · rw [h] at e1
    subst e1
    exact .top u
  · rw [seen_none _ h] at e1
    have r := D.slot t ht
    rw [seen_none _ h, e1, e2] at r
    exact r.mono le

theorem pan_ok (G : E.Good) (hc : CallOk E call) {ops : Array Oper} (F : DrawFacts ops) {l : List (Bool × AV)} {s : St} {e : Nat} {es : List Nat} (heffs : effs E.P ops = e :: es)
    (hes : ∀ e' ∈ es, ((Region.before ops).getD e' 0).testBit e = true) {oe : Oper} (hoe : ops[e]? = some oe) (hg : oe.guard = none)
    (hrest : ∀ i, i < ops.size → i = e ∨ ((Region.before ops).getD i 0).testBit e = true ∨ ∃ H', stepsAt E call ops l s.tm i s.H = some H' ∧ H' = s.H)
    {f : FuncId} {args : List AV} {H1 : Heap} (hop : aop E (rhoAt E ops l s.tm e oe) oe s.H = some (.enter f args, H1)) {x : AV} {H' : Heap} (hcall : call f args H1 = some (.pan x, H')) {g0 : Ghost} {w0 : World} :
    ∀ (fuel : Nat) {listed : Array Bool} {g : Ghost} {a : Act} {w : World}, listed.size = ops.size → ((List.range ops.size).filter fun e => !lis listed e).length ≤ fuel → lis listed e = false → DrawInv E ops l s (lis listed) g s.H a w → Step g0 s.H w0 g s.H w →
    wpAny E.P .any ops (Post E g0 s.H w0 (.pan x, { s with tm := endTm ops.toList (List.replicate ops.size (true, .top)) s.tm, H := H' })) fuel listed a w := by
  intro fuel
  have he : e < ops.size := (Array.getElem?_eq_some_iff.1 hoe).1
  induction fuel with
  | zero =>
    intro listed g a w hsz hn hle D S
    have := not_listed_pos he hle
    rw [List.eq_nil_of_length_eq_zero (Nat.le_zero.1 hn)] at this
    cases this
  | succ fuel ih =>
    intro listed g a w hsz hn hle D S
    refine ⟨fun hr => ?_, fun i hi => ?_⟩
    · have := ready_nil hsz F.lt hr e he
      have hle : listed.getD e false = false := hle
      rw [this] at hle
      cases hle
    · obtain ⟨o, N⟩ := next_of hsz hi
      rcases hrest i N.lt with rfl | hb | ⟨H2, hs, rfl⟩
      · have : o = oe := by have := N.get; rw [hoe] at this; cases this; rfl
        subst this
        unfold wpOp
        simp only [N.get]
        rw [if_pos (by unfold Region.wanted; rw [hg])]
        refine .inl ?_
        unfold Oper.wp
        obtain ⟨rfl, vs, hr, r1⟩ := aop_ok G D.inv (next_rho F D N) hop
        rw [hr]
        refine Calls.mono (hc _ _ _ _ _ hcall g w vs D.inv r1) fun e w' he => ?_
        cases e with
        | returned v =>
          obtain ⟨x', g', hx', -⟩ := he
          cases hx'
        | panicked chain =>
          obtain ⟨x', v, g', hx', hch, I, S', rx⟩ := he
          cases hx'
          exact ⟨g', ⟨v, hch, rx⟩, draw_pan D I S'.le, S.trans S'⟩
        | outgrown => exact he.elim
      · have := next_bf F D.clo N hb
        rw [hle] at this
        cases this
      · refine next_step G hc F D N hs fun g' a' w' D' S' => ?_
        have hi' : i < listed.size := by rw [hsz]; exact N.lt
        have hne : ¬ e = i ∨ e = i := by omega
        rcases hne with hne | rfl
        · refine ih (by simpa using hsz) ?_ ?_ (by rw [lis_set hi']; exact D') (S.trans S')
          · rw [filter_set hi' _ List.nodup_range, List.length_erase_of_mem (not_listed_pos N.lt N.new)]
            omega
          · rw [lis_set hi']
            simp [hle, hne]
        · exfalso
          unfold stepsAt at hs
          rw [hoe] at hs
          split at hs
          · rename_i o' b x' ho hl
            cases ho
            have hw : wantAt ops l s.tm e oe = some true := by unfold wantAt; rw [hg]
            rw [hw, hop] at hs
            simp only [hcall] at hs
            cases hs
          · cases hs

/-- A region of which the order is drawn. -/
theorem adraw_ok (G : E.Good) (hm : E.P.follows .mixedOrders = true) {call : CallFn} (hc : CallOk E call) : DrawOk E call := by
  intro ops s r h g a w hs id
  unfold adraw at h
  split at h
  · rename_i hd
    have F := draw_facts hd
    have hent := fun c q (hq : acanon E call ops ops.toList s = (c, q)) => (recall_ok G hc (es := c) (by
      have := acanon_entries (E := E) (call := call) (ops := ops) (os := ops.toList) (s := s)
      rw [hq] at this
      exact this) : CallOk E (recall E call c))
    split at h
    · rename_i c l s' hq
      split at h
      · rename_i hcond
        cases h
        simp only [Bool.and_eq_true, beq_iff_eq] at hcond
        exact adraw_normal G hm (hent _ _ hq) F hcond.1 hcond.2 hs id
      · cases h
    · rename_i c hq
      have hc' := hent _ _ hq
      unfold adrawP at h
      simp only at h
      split at h
      · cases h
      · rename_i e es heffs
        split at h
        · rename_i l o hl ho
          split at h
          · rename_i hcond
            simp only [Bool.and_eq_true, List.all_eq_true, beq_iff_eq, Option.isNone_iff_eq_none, Bool.or_eq_true] at hcond
            obtain ⟨⟨⟨h1, h2⟩, h3⟩, h4⟩ := hcond
            split at h
            · rename_i f args H1 hop
              split at h
              · rename_i x H' hcall
                cases h
                refine wp_region_any hm ?_
                obtain ⟨hs', S⟩ := hs.drew (w' := { w with drawn := w.drawn + 1 }) rfl
                refine pan_ok G hc' F heffs h1 ho h2 (fun i hi => ?_) hop hcall ops.size (by simp) (Nat.le_trans (List.length_filter_le _ _) (by simp)) ?_ (draw_start hs') S
                · rcases h4 i (List.mem_range.2 hi) with (h | h) | h
                  · exact .inl h
                  · exact .inr (.inl h)
                  · split at h
                    · rename_i H2 hs2
                      exact .inr (.inr ⟨H2, hs2, G.sameH _ _ h⟩)
                    · cases h
                · unfold lis
                  rw [Array.getD_eq_getD_getElem?, Array.getElem?_replicate]
                  split <;> rfl
              · cases h
            · cases h
          · cases h
        · cases h
  · cases h

/-- THE ABSTRACT RUN TELLS WHAT THE MODEL DOES. -/
theorem acall_calls {E : Env} (G : E.Good) (hm : E.P.follows .mixedOrders = true) {orc : Orc} (hO : OrcOk E orc) (n : Nat) : CallOk E (acall E orc n) :=
  acall_ok G (fun _ hc => adraw_ok G hm hc) hO n

end
end Go.AI
end
section
/-! When two abstract values are one: computed. -/
namespace Go.AI
open Go

def bytesEq : List UInt8 → List UInt8 → Bool
  | [], [] => true
  | a :: as, b :: bs => a.toNat == b.toNat && bytesEq as bs
  | _, _ => false

def vEq : Value → Value → Bool
  | .bool a, .bool b => a == b
  | .int k a, .int k' b => decide (k = k') && decide (a = b)
  | .float k a, .float k' b => decide (k = k') && a == b
  | .string a, .string b => bytesEq a.data.toList b.data.toList
  | .pointer none, .pointer none => true
  | .slice none 0 0, .slice none 0 0 => true
  | .map none, .map none => true
  | .nilFunc, .nilFunc => true
  | .nilIface, .nilIface => true
  | .tuple ⟨[]⟩, .tuple ⟨[]⟩ => true
  | _, _ => false

mutual
def avEq : AV → AV → Bool
  | .top, .top => true
  | .v x, .v y => vEq x y
  | .ptr i o, .ptr j p => i == j && o == p
  | .sl n xs, .sl m ys => n == m && avEqL xs ys
  | .asl i n, .asl j m => i == j && n == m
  | .bsl i o n, .bsl j p m => i == j && o == p && n == m
  | .ap i n o, .ap j m p => i == j && n == m && o == p
  | .ep xs, .ep ys => avEqL xs ys
  | .fn f a b, .fn g c d => decide (f = g) && avEqL a c && avEqL b d
  | .ifc t x, .ifc u y => t == u && avEq x y
  | .mp i, .mp j => i == j
  | .agg xs, .agg ys => avEqL xs ys
  | .tup xs, .tup ys => avEqL xs ys
  | _, _ => false
def avEqL : List AV → List AV → Bool
  | [], [] => true
  | x :: xs, y :: ys => avEq x y && avEqL xs ys
  | _, _ => false
end

def mapEq : List (Value × AV) → List (Value × AV) → Bool
  | [], [] => true
  | (k, x) :: xs, (l, y) :: ys => vEq k l && avEq x y && mapEq xs ys
  | _, _ => false

def objEq : AObj → AObj → Bool
  | .box t xs, .box u ys => t == u && avEqL xs ys
  | .arr e n f xs, .arr d m g ys => e == d && n == m && f == g && avEqL xs ys
  | .map xs, .map ys => mapEq xs ys
  | .dead, .dead => true
  | _, _ => false

def heapEq : Heap → Heap → Bool
  | [], [] => true
  | x :: xs, y :: ys => objEq x y && heapEq xs ys
  | _, _ => false

theorem bytesEq_eq : ∀ {a b : List UInt8}, bytesEq a b = true → a = b
  | [], [], _ => rfl
  | [], _ :: _, h => by cases h
  | _ :: _, [], h => by cases h
  | a :: as, b :: bs, h => by
    simp only [bytesEq, Bool.and_eq_true, beq_iff_eq] at h
    rw [UInt8.toNat_inj.1 h.1, bytesEq_eq h.2]

theorem vEq_eq {x y : Value} (h : vEq x y = true) : x = y := by
  unfold vEq at h
  split at h
  · rw [eq_of_beq h]
  · simp only [Bool.and_eq_true, decide_eq_true_eq] at h; rw [h.1, h.2]
  · simp only [Bool.and_eq_true, decide_eq_true_eq, beq_iff_eq] at h; rw [h.1, h.2]
  · rename_i a b
    have := bytesEq_eq h
    obtain ⟨⟨a⟩⟩ := a
    obtain ⟨⟨b⟩⟩ := b
    simp only at this
    rw [this]
  all_goals first | rfl | cases h

mutual
theorem avEq_eq : ∀ {x y : AV}, avEq x y = true → x = y
  | .top, y, h => by cases y <;> first | rfl | simp [avEq] at h
  | .v x, y, h => by cases y <;> first | (simp only [avEq] at h; rw [vEq_eq h]) | simp [avEq] at h
  | .ptr i o, y, h => by cases y <;> first | (simp only [avEq, Bool.and_eq_true, beq_iff_eq] at h; rw [h.1, h.2]) | simp [avEq] at h
  | .sl n xs, y, h => by cases y <;> first | (simp only [avEq, Bool.and_eq_true, beq_iff_eq] at h; rw [h.1, avEqL_eq h.2]) | simp [avEq] at h
  | .asl i n, y, h => by cases y <;> first | (simp only [avEq, Bool.and_eq_true, beq_iff_eq] at h; rw [h.1, h.2]) | simp [avEq] at h
  | .bsl i o n, y, h => by cases y <;> first | (simp only [avEq, Bool.and_eq_true, beq_iff_eq] at h; rw [h.1.1, h.1.2, h.2]) | simp [avEq] at h
  | .ap i n o, y, h => by cases y <;> first | (simp only [avEq, Bool.and_eq_true, beq_iff_eq] at h; rw [h.1.1, h.1.2, h.2]) | simp [avEq] at h
  | .ep xs, y, h => by cases y <;> first | (simp only [avEq] at h; rw [avEqL_eq h]) | simp [avEq] at h
  | .fn f a b, y, h => by cases y <;> first | (simp only [avEq, Bool.and_eq_true, decide_eq_true_eq] at h; rw [h.1.1, avEqL_eq h.1.2, avEqL_eq h.2]) | simp [avEq] at h
  | .ifc t x, y, h => by cases y <;> first | (simp only [avEq, Bool.and_eq_true, beq_iff_eq] at h; rw [h.1, avEq_eq h.2]) | simp [avEq] at h
  | .mp i, y, h => by cases y <;> first | (simp only [avEq, beq_iff_eq] at h; rw [h]) | simp [avEq] at h
  | .agg xs, y, h => by cases y <;> first | (simp only [avEq] at h; rw [avEqL_eq h]) | simp [avEq] at h
  | .tup xs, y, h => by cases y <;> first | (simp only [avEq] at h; rw [avEqL_eq h]) | simp [avEq] at h
theorem avEqL_eq : ∀ {xs ys : List AV}, avEqL xs ys = true → xs = ys
  | [], [], _ => rfl
  | [], _ :: _, h => by simp [avEqL] at h
  | _ :: _, [], h => by simp [avEqL] at h
  | x :: xs, y :: ys, h => by
    simp only [avEqL, Bool.and_eq_true] at h
    rw [avEq_eq h.1, avEqL_eq h.2]
end

theorem mapEq_eq : ∀ {xs ys : List (Value × AV)}, mapEq xs ys = true → xs = ys
  | [], [], _ => rfl
  | [], _ :: _, h => by simp [mapEq] at h
  | _ :: _, [], h => by simp [mapEq] at h
  | (k, x) :: xs, (l, y) :: ys, h => by
    simp only [mapEq, Bool.and_eq_true] at h
    rw [vEq_eq h.1.1, avEq_eq h.1.2, mapEq_eq h.2]

theorem objEq_eq {x y : AObj} (h : objEq x y = true) : x = y := by
  unfold objEq at h
  split at h
  · simp only [Bool.and_eq_true, beq_iff_eq] at h; rw [h.1, avEqL_eq h.2]
  · simp only [Bool.and_eq_true, beq_iff_eq] at h; rw [h.1.1.1, h.1.1.2, h.1.2, avEqL_eq h.2]
  · rw [mapEq_eq h]
  · rfl
  · cases h

theorem heapEq_eq : ∀ {xs ys : Heap}, heapEq xs ys = true → xs = ys
  | [], [], _ => rfl
  | [], _ :: _, h => by simp [heapEq] at h
  | _ :: _, [], h => by simp [heapEq] at h
  | x :: xs, y :: ys, h => by
    simp only [heapEq, Bool.and_eq_true] at h
    rw [objEq_eq h.1, heapEq_eq h.2]

end Go.AI
end
section
/-! The abstract run at values that are not told: rules for simp. -/
namespace Go.AI
open Go

section
variable {E : Env} {call : CallFn} {ops : Array Oper} {r : List Oper}

def astep (E : Env) (call : CallFn) (ops : Array Oper) (r : List Oper) (dst : Option Tmp) (tm : List AV) (df : List (Fn × List AV × List AV)) : Option (ARes × Heap) → Option (AExit × St)
  | some (.val x, H) => aops E call ops r ⟨putA tm dst x, df, H⟩
  | some (.skip, H) => aops E call ops r ⟨putA tm dst (.v undef), df, H⟩
  | some (.dfr f cap args, H) => aops E call ops r ⟨putA tm dst (.v undef), (f, cap, args) :: df, H⟩
  | some (.enter g args, H) => match call g args H with
    | some (.ret x, H') => aops E call ops r ⟨putA tm dst x, df, H'⟩
    | some (.pan x, H') => some (.pan x, ⟨tm, df, H'⟩)
    | none => none
  | some (.pan x, H) => some (.pan x, ⟨tm, df, H⟩)
  | _ => none

theorem aops_nil {s : St} : aops E call ops [] s = some (.normal, s) := rfl
theorem aops_plain {dst : Option Tmp} {op : Op} {ty : TypeId} {pos : String} {after : Array Edge} {tm : List AV} {df : List (Fn × List AV × List AV)} {H : Heap} :
    aops E call ops ({ dst := dst, op := op, type := ty, pos := pos, after := after, guard := none } :: r) ⟨tm, df, H⟩ =
      astep E call ops r dst tm df (aop E (aval E tm) { dst := dst, op := op, type := ty, pos := pos, after := after, guard := none } H) := by
  conv => lhs; unfold aops
  unfold awanted
  simp only
  unfold astep
  split <;> simp_all
  rename_i g args H1 _
  cases call g args H1 with
  | none => rfl
  | some p =>
    obtain ⟨e, H'⟩ := p
    cases e <;> rfl

theorem astep_val {dst : Option Tmp} {tm : List AV} {df : List (Fn × List AV × List AV)} {H : Heap} {x : AV} : astep E call ops r dst tm df (some (.val x, H)) = aops E call ops r ⟨putA tm dst x, df, H⟩ := rfl
theorem astep_skip {dst : Option Tmp} {tm : List AV} {df : List (Fn × List AV × List AV)} {H : Heap} : astep E call ops r dst tm df (some (.skip, H)) = aops E call ops r ⟨putA tm dst (.v undef), df, H⟩ := rfl
theorem astep_pan {dst : Option Tmp} {tm : List AV} {df : List (Fn × List AV × List AV)} {H : Heap} {x : AV} : astep E call ops r dst tm df (some (.pan x, H)) = some (.pan x, ⟨tm, df, H⟩) := rfl
theorem astep_enter {dst : Option Tmp} {tm : List AV} {df : List (Fn × List AV × List AV)} {H H' : Heap} {g : FuncId} {args : List AV} {x : AV} (h : call g args H = some (.ret x, H')) :
    astep E call ops r dst tm df (some (.enter g args, H)) = aops E call ops r ⟨putA tm dst x, df, H'⟩ := by
  simp only [astep, h]

theorem putA_some {tm : List AV} {t : Tmp} {x : AV} : putA tm (some t) x = tm.set t x := rfl
theorem putA_none {tm : List AV} {x : AV} : putA tm none x = tm := rfl
theorem aval_tmp {tm : List AV} {t : Tmp} : aval E tm (.tmp t) = tm.getD t (.v undef) := rfl
theorem aval_const {tm : List AV} {x : Value} : aval E tm (.const x) = conv x := rfl
theorem aval_global {tm : List AV} {gl : Nat} : aval E tm (.global gl) = .ep (E.glob gl) := rfl
theorem aval_func {tm : List AV} {f : FuncId} : aval E tm (.func f) = .fn (.func f) [] [] := rfl
theorem getD_set_self {tm : List AV} {t : Nat} {x d : AV} (h : t < tm.length) : (tm.set t x).getD t d = x := by simp [List.getD_eq_getElem?_getD, h]
theorem getD_set_ne {tm : List AV} {t u : Nat} {x d : AV} (h : t ≠ u) : (tm.set t x).getD u d = tm.getD u d := by simp [List.getD_eq_getElem?_getD, h]

/-! ### Control -/
def abind (f : St → Option (AExit × St)) : Option (AExit × St) → Option (AExit × St)
  | some (.normal, s) => f s
  | r => r
theorem abind_normal {f : St → Option (AExit × St)} {s : St} : abind f (some (.normal, s)) = f s := rfl
theorem abind_exit {f : St → Option (AExit × St)} {s : St} {i : Nat} : abind f (some (.exit i, s)) = some (.exit i, s) := rfl
theorem abind_ret {f : St → Option (AExit × St)} {s : St} : abind f (some (.ret, s)) = some (.ret, s) := rfl
theorem abind_pan {f : St → Option (AExit × St)} {s : St} {x : AV} : abind f (some (.pan x, s)) = some (.pan x, s) := rfl

variable {fuel : Nat} {s : St}
theorem acode_seq {a b : Code} : acode E call fuel (.seq a b) s = abind (acode E call fuel b) (acode E call fuel a s) := by
  conv => lhs; unfold acode
  unfold abind
  split <;> simp_all
theorem acode_region {id : Nat} {ops : Array Oper} : acode E call fuel (.region id ops false) s = aops E call ops ops.toList s := rfl
theorem acode_draw {id : Nat} {ops : Array Oper} : acode E call fuel (.region id ops true) s = adraw E call ops s := rfl
theorem acode_skip : acode E call fuel .skip s = some (.normal, s) := rfl
theorem acode_exit {id : Nat} : acode E call fuel (.exit id) s = some (.exit id, s) := rfl
theorem acode_ret : acode E call fuel .ret s = some (.ret, s) := rfl
theorem acode_true {c : Operand} {a b : Code} (h : aval E s.tm c = .v (.bool true)) : acode E call fuel (.cond c a b) s = acode E call fuel a s := by
  conv => lhs; unfold acode
  rw [h]
theorem acode_false {c : Operand} {a b : Code} (h : aval E s.tm c = .v (.bool false)) : acode E call fuel (.cond c a b) s = acode E call fuel b s := by
  conv => lhs; unfold acode
  rw [h]
def ablock (id : Nat) : Option (AExit × St) → Option (AExit × St)
  | some (.exit id', s') => if id' = id then some (.normal, s') else some (.exit id', s')
  | r => r
theorem acode_block {id : Nat} {b : Code} : acode E call fuel (.block id b) s = ablock id (acode E call fuel b s) := by
  conv => lhs; unfold acode
  unfold ablock
  split <;> simp_all
theorem ablock_normal {id : Nat} : ablock id (some (.normal, s)) = some (.normal, s) := rfl
theorem ablock_ret {id : Nat} : ablock id (some (.ret, s)) = some (.ret, s) := rfl
theorem ablock_self {id : Nat} : ablock id (some (.exit id, s)) = some (.normal, s) := by simp [ablock]
theorem ablock_other {id j : Nat} (h : j ≠ id) : ablock id (some (.exit j, s)) = some (.exit j, s) := by simp [ablock, h]
theorem acode_loop {b : Code} : acode E call fuel (.loop b) s = aloop (acode E call fuel b) fuel s := rfl
theorem aloop_succ {f : St → Option (AExit × St)} {n : Nat} : aloop f (n + 1) s = abind (aloop f n) (f s) := by
  conv => lhs; unfold aloop
  unfold abind
  split <;> simp_all

/-! ### Calls -/
theorem acall_ret1 {orc : Orc} {n t : Nat} {f : FuncId} {fn : Func} {c : Code} {args tm : List AV} {H H' : Heap} (ho : orc f = none) (hc : E.code f = some (fn, c)) (hr : fn.results.toList = [.tmp t])
    (hx : acode E (acall E orc n) n c (aframe E fn args H) = some (.ret, ⟨tm, [], H'⟩)) : acall E orc (n + 1) f args H = some (gc H.length (.ret (tm.getD t (.v undef)), H')) := by
  simp [acall, ho, hc, abody, hx, adefers, aresults, hr, aresultL, aresult]

mutual
theorem under_mono {n m : Nat} (h : n ≤ m) : ∀ (x : AV), x.under n = true → x.under m = true
  | .top, _ => rfl
  | .v _, _ => rfl
  | .ptr i o, k => by simp only [AV.under, decide_eq_true_eq] at k ⊢; omega
  | .asl i o, k => by simp only [AV.under, decide_eq_true_eq] at k ⊢; omega
  | .bsl i o q, k => by simp only [AV.under, decide_eq_true_eq] at k ⊢; omega
  | .ap i o q, k => by simp only [AV.under, decide_eq_true_eq] at k ⊢; omega
  | .mp i, k => by simp only [AV.under, decide_eq_true_eq] at k ⊢; omega
  | .sl _ cs, k => by simp only [AV.under] at k ⊢; exact underL_mono h cs k
  | .ep cs, k => by simp only [AV.under] at k ⊢; exact underL_mono h cs k
  | .agg cs, k => by simp only [AV.under] at k ⊢; exact underL_mono h cs k
  | .tup cs, k => by simp only [AV.under] at k ⊢; exact underL_mono h cs k
  | .fn _ a b, k => by simp only [AV.under, Bool.and_eq_true] at k ⊢; exact ⟨underL_mono h a k.1, underL_mono h b k.2⟩
  | .ifc _ x, k => by simp only [AV.under] at k ⊢; exact under_mono h x k
theorem underL_mono {n m : Nat} (h : n ≤ m) : ∀ (xs : List AV), AV.underL n xs = true → AV.underL m xs = true
  | [], _ => rfl
  | x :: xs, k => by
    simp only [AV.underL, Bool.and_eq_true] at k ⊢
    exact ⟨under_mono h x k.1, underL_mono h xs k.2⟩
end

theorem obj_under_mono {n m : Nat} (h : n ≤ m) (o : AObj) (k : o.under n = true) : o.under m = true := by
  cases o with
  | box t cs => exact underL_mono h cs k
  | arr e q f cs => exact underL_mono h cs k
  | map es => exact underL_mono h _ k
  | dead => rfl

theorem underL_append {n : Nat} : ∀ (xs ys : List AV), AV.underL n (xs ++ ys) = (AV.underL n xs && AV.underL n ys)
  | [], ys => by simp [AV.underL]
  | x :: xs, ys => by simp [AV.underL, underL_append xs ys, Bool.and_assoc]

def OkH (H : Heap) : Prop := H.all (·.under H.length) = true

theorem gc_all {H ext : Heap} {x : AV} (hH : OkH H) (hx : x.under H.length = true) : gc H.length (.ret x, H ++ ext) = (.ret x, H) := by
  unfold gc
  have h1 : (H ++ ext).take H.length = H := List.take_left
  simp only [h1, AEnd.under, hx, Bool.true_and]
  exact if_pos hH

theorem okH_push {H : Heap} (h : OkH H) {o : AObj} (ho : o.under (H.length + 1) = true) : OkH (H ++ [o]) := by
  unfold OkH at *
  rw [List.all_append, List.length_append]
  simp only [List.length_cons, List.length_nil, Nat.zero_add, List.all_cons, List.all_nil, Bool.and_true, Bool.and_eq_true]
  refine ⟨List.all_eq_true.2 fun x hx => obj_under_mono (by omega) x (List.all_eq_true.1 h x hx), ho⟩

theorem okH_box {H : Heap} (h : OkH H) {t : TypeId} {cs : List AV} (hc : AV.underL 0 cs = true) : OkH (H ++ [.box t cs]) := okH_push h (underL_mono (Nat.zero_le _) cs hc)

/-! ### Operations -/
variable {ρ : Operand → AV} {H : Heap} {dst : Option Tmp} {ty : TypeId} {pos : String} {after : Array Edge} {gd : Option (Nat × Bool)}

def obox (H : Heap) (t : TypeId) : Option (List AV) → Option (ARes × Heap)
  | some cs => some (.val (.ptr H.length 0), H ++ [.box t cs])
  | none => none
theorem obox_some {t : TypeId} {cs : List AV} : obox H t (some cs) = some (.val (.ptr H.length 0), H ++ [.box t cs]) := rfl

def oload (P : Program) (t : TypeId) (H : Heap) : AV → Option (ARes × Heap)
  | .ptr id off => match H[id]? with
    | some (.box _ cs) => (aload P t cs off).map fun x => (.val x, H)
    | _ => none
  | .ap id n off => match H[id]? with
    | some (.arr _ n' _ cs) => if n' = n then (aload P t cs off).map fun x => (.val x, H) else none
    | _ => none
  | .ep cs => (aload P t cs 0).map fun x => (.val x, H)
  | _ => none
theorem oload_ptr {t : TypeId} {P : Program} {id off : Nat} {u : TypeId} {cs : List AV} (hH : H[id]? = some (.box u cs)) : oload P t H (.ptr id off) = (aload P t cs off).map fun x => (.val x, H) := by simp [oload, hH]
theorem oload_ep {t : TypeId} {P : Program} {cs : List AV} : oload P t H (.ep cs) = (aload P t cs 0).map fun x => (.val x, H) := rfl

def ostore (P : Program) (t : TypeId) (H : Heap) (a x : AV) : Option (ARes × Heap) := match a with
  | .ptr id off => match H[id]? with
    | some (.box u cs) => (astore P t cs off x).map fun cs' => (.skip, H.set id (.box u cs'))
    | _ => none
  | .ap id n off => match H[id]? with
    | some (.arr e' n' fz cs) => if n' = n ∧ fz = false then (astore P t cs off x).map fun cs' => (.skip, H.set id (.arr e' n fz cs')) else none
    | _ => none
  | _ => none

def ofield (P : Program) (q : TypeId) (i : Nat) (H : Heap) (x : AV) : Option (ARes × Heap) := match P.underlying q with
  | some (.struct fields) => match fields[i]? with
    | some f => match sizeT P f.type with
      | some (_ + 1) => match x with
        | .ptr id off => some (.val (.ptr id (off + f.offset)), H)
        | .ap id n off => some (.val (.ap id n (off + f.offset)), H)
        | .ep cs => some (.val (.ep (cs.drop f.offset)), H)
        | _ => none
      | _ => none
    | none => none
  | _ => none

def obin (P : Program) (op : BinOp) (t : TypeId) (x y : Operand) (H : Heap) (u v : AV) : Option (ARes × Heap) :=
  match u.un, v.un with
    | some a, some b => (quiet P (do eqGuard op t x y a b; binOp op t a b)).map fun r => (.val (conv r), H)
    | _, _ => match op, u, v with
      | .eql, .ptr .., .v (.pointer none) | .eql, .ap .., .v (.pointer none) | .eql, .ep .., .v (.pointer none)
      | .eql, .v (.pointer none), .ptr .. | .eql, .v (.pointer none), .ap .. | .eql, .v (.pointer none), .ep .. => match P.underlying t with
        | some (.pointer _) => some (.val (.v (.bool false)), H)
        | _ => none
      | .neq, .ptr .., .v (.pointer none) | .neq, .ap .., .v (.pointer none) | .neq, .ep .., .v (.pointer none)
      | .neq, .v (.pointer none), .ptr .. | .neq, .v (.pointer none), .ap .. | .neq, .v (.pointer none), .ep .. => match P.underlying t with
        | some (.pointer _) => some (.val (.v (.bool true)), H)
        | _ => none
      | .eql, .ptr i j, .ptr k l => match P.underlying t with
        | some (.pointer e) => match sizeT P e with
          | some (_ + 1) => if i = k ∧ j = l then some (.val (.v (.bool true)), H) else none
          | _ => none
        | _ => none
      | .neq, .ptr i j, .ptr k l => match P.underlying t with
        | some (.pointer e) => match sizeT P e with
          | some (_ + 1) => if i = k ∧ j = l then some (.val (.v (.bool false)), H) else none
          | _ => none
        | _ => none
      | .eql, .ifc .., .v .nilIface | .eql, .v .nilIface, .ifc .. => match P.underlying t with
        | some (.interface _) => some (.val (.v (.bool false)), H)
        | _ => none
      | .neq, .ifc .., .v .nilIface | .neq, .v .nilIface, .ifc .. => match P.underlying t with
        | some (.interface _) => some (.val (.v (.bool true)), H)
        | _ => none
      | _, _, _ => none

def oindex (P : Program) (t : TypeId) (H : Heap) (x ix : AV) : Option (ARes × Heap) := match P.underlying t, ix with
  | some (.slice e), .v (.int _ i) => match sizeT P e with
    | some (size + 1) => match x with
      | .sl n cs => if 0 ≤ i ∧ i < n ∧ (i.toNat + 1) * (size + 1) ≤ cs.length then some (.val (.ep (cs.drop (i.toNat * (size + 1)))), H) else none
      | .asl id n => if 0 ≤ i ∧ i < n then some (.val (.ap id n (i.toNat * (size + 1))), H) else none
      | .bsl id off n => if 0 ≤ i ∧ i < n then some (.val (.ptr id (off + i.toNat * (size + 1))), H) else none
      | _ => none
    | _ => none
  | _, _ => none

def ocall (E : Env) (H : Heap) (args : List AV) (f : AV) : Option (ARes × Heap) :=
  match f with
      | .fn (.func g) first cap => match E.code g with
        | some _ => some (.enter g (first ++ args ++ cap), H)
        | none => if E.noesc g = true then match first ++ args ++ cap with
            | [.ptr id off] => some (.val (.ptr id off), H)
            | _ => none
          else match unL (first ++ args ++ cap) with
            | some vs => (E.ext g vs).map fun r => (.val (conv r), H)
            | none => none
      | _ => none

theorem aop_move {x : Operand} : aop E ρ ⟨dst, .move x, ty, pos, after, gd⟩ H = some (.val (ρ x), H) := rfl
theorem aop_assign {x : Operand} : aop E ρ ⟨dst, .assign x, ty, pos, after, gd⟩ H = some (.val (ρ x), H) := rfl
theorem aop_box {t : TypeId} {x : Operand} : aop E ρ ⟨dst, .box t x, ty, pos, after, gd⟩ H = obox H t (ρ x).cells? := by
  simp only [aop, obox]
  split <;> simp_all
theorem aop_alloc {t : TypeId} {z : Value} (hz : zeroT E.P t = some z) : aop E ρ ⟨dst, .alloc t, ty, pos, after, gd⟩ H = obox H t (conv z).cells? := by
  simp only [aop, obox, hz]
  split <;> simp_all
theorem aop_fieldAddr {q : TypeId} {x : Operand} {i : Nat} : aop E ρ ⟨dst, .fieldAddr q x i, ty, pos, after, gd⟩ H = ofield E.P q i H (ρ x) := rfl
theorem aop_load {t : TypeId} {a : Operand} : aop E ρ ⟨dst, .load t a, ty, pos, after, gd⟩ H = oload E.P t H (ρ a) := by
  simp only [aop, oload]
  split <;> simp_all
  all_goals (split <;> simp_all)
theorem aop_store {t : TypeId} {a x : Operand} : aop E ρ ⟨dst, .store t a x, ty, pos, after, gd⟩ H = ostore E.P t H (ρ a) (ρ x) := by
  simp only [aop, ostore]
  split <;> simp_all
  all_goals (split <;> simp_all)
theorem aop_index {t : TypeId} {x ix : Operand} {e : TypeId} (ht : E.P.underlying t = some (.slice e)) : aop E ρ ⟨dst, .indexAddr t x ix, ty, pos, after, gd⟩ H = oindex E.P t H (ρ x) (ρ ix) := by
  simp only [aop, oindex, ht]
  split <;> simp_all
  all_goals (split <;> simp_all)
  all_goals (split <;> simp_all)
theorem aop_bin {op : BinOp} {t t2 : TypeId} {x y : Operand} : aop E ρ ⟨dst, .binOp op t x y t2, ty, pos, after, gd⟩ H = obin E.P op t x y H (ρ x) (ρ y) := rfl
theorem obin_vv {P : Program} {op : BinOp} {t : TypeId} {x y : Operand} {a b : Value} : obin P op t x y H (.v a) (.v b) = (quiet P (do eqGuard op t x y a b; binOp op t a b)).map fun r => (.val (conv r), H) := rfl
theorem obin_lss {P : Program} {t : TypeId} {x y : Operand} {a b : Int} : obin P .lss t x y H (.v (.int .i64 a)) (.v (.int .i64 b)) = some (.val (.v (.bool (decide (a < b)))), H) := rfl
theorem obin_leq {P : Program} {t : TypeId} {x y : Operand} {a b : Int} : obin P .leq t x y H (.v (.int .i64 a)) (.v (.int .i64 b)) = some (.val (.v (.bool (decide (a ≤ b)))), H) := rfl
theorem obin_gtr {P : Program} {t : TypeId} {x y : Operand} {a b : Int} : obin P .gtr t x y H (.v (.int .i64 a)) (.v (.int .i64 b)) = some (.val (.v (.bool (decide (a > b)))), H) := rfl
theorem obin_geq {P : Program} {t : TypeId} {x y : Operand} {a b : Int} : obin P .geq t x y H (.v (.int .i64 a)) (.v (.int .i64 b)) = some (.val (.v (.bool (decide (a ≥ b)))), H) := rfl
theorem obin_eql {P : Program} {t : TypeId} {x y : Operand} {a b : Int} : obin P .eql t x y H (.v (.int .i64 a)) (.v (.int .i64 b)) = some (.val (.v (.bool (a == b))), H) := rfl
theorem obin_neq {P : Program} {t : TypeId} {x y : Operand} {a b : Int} : obin P .neq t x y H (.v (.int .i64 a)) (.v (.int .i64 b)) = some (.val (.v (.bool (a != b))), H) := rfl
theorem obin_add {P : Program} {t : TypeId} {x y : Operand} {a b : Int} : obin P .add t x y H (.v (.int .i64 a)) (.v (.int .i64 b)) = some (.val (.v (.int .i64 (IntKind.i64.wrap (a + b)))), H) := rfl
theorem obin_sub {P : Program} {t : TypeId} {x y : Operand} {a b : Int} : obin P .sub t x y H (.v (.int .i64 a)) (.v (.int .i64 b)) = some (.val (.v (.int .i64 (IntKind.i64.wrap (a - b)))), H) := rfl
theorem obin_mul {P : Program} {t : TypeId} {x y : Operand} {a b : Int} : obin P .mul t x y H (.v (.int .i64 a)) (.v (.int .i64 b)) = some (.val (.v (.int .i64 (IntKind.i64.wrap (a * b)))), H) := rfl
theorem aop_call {f : Operand} {args : Array Operand} {tys : Array TypeId} : aop E ρ ⟨dst, .call { callee := .value f, args := args, argTypes := tys }, ty, pos, after, gd⟩ H = ocall E H (args.toList.map ρ) (ρ f) := rfl
theorem ocall_fn {args : List AV} {g : FuncId} {q : Func × Code} (hq : E.code g = some q) : ocall E H args (.fn (.func g) [] []) = some (.enter g args, H) := by simp [ocall, hq]
def olen (P : Program) (t : TypeId) (H : Heap) (tys : Array TypeId) (ty : TypeId) (u : AV) : Option (ARes × Heap) := match u with
  | .sl n _ | .asl _ n | .bsl _ _ n => match P.underlying t with
    | some (.slice _) => some (.val (.v (goInt n)), H)
    | _ => none
  | .mp id => match P.underlying t, H[id]? with
    | some (.map _ _), some (.map es) => some (.val (.v (goInt es.length)), H)
    | _, _ => none
  | y => match y.un with
    | some a => (quiet P (Builtin.len_ tys ty #[a])).map fun r => (.val (conv r), H)
    | none => none
theorem aop_len {x : Operand} {t : TypeId} : aop E ρ ⟨dst, .call { callee := .builtin .len, args := #[x], argTypes := #[t] }, ty, pos, after, gd⟩ H = olen E.P t H #[t] ty (ρ x) := rfl
theorem olen_sl {P : Program} {t e : TypeId} {tys : Array TypeId} {n : Nat} {cs : List AV} (ht : P.underlying t = some (.slice e)) : olen P t H tys ty (.sl n cs) = some (.val (.v (goInt n)), H) := by simp [olen, ht]
def omax (P : Program) (H : Heap) (tys : Array TypeId) (ty : TypeId) (u v : AV) : Option (ARes × Heap) := match unL [u, v] with
  | some vs => (quiet P (Builtin.max_ tys ty vs.toArray)).map fun r => (.val (conv r), H)
  | none => none
theorem aop_max {x y : Operand} {tys : Array TypeId} : aop E ρ ⟨dst, .call { callee := .builtin .max, args := #[x, y], argTypes := tys }, ty, pos, after, gd⟩ H = omax E.P H tys ty (ρ x) (ρ y) := rfl
theorem omax_int {P : Program} {tys : Array TypeId} {a b : Int} : omax P H tys ty (.v (.int .i64 a)) (.v (.int .i64 b)) = some (.val (.v (.int .i64 (if b > a then b else a))), H) := rfl
theorem oindex_sl {P : Program} {t e : TypeId} {k : IntKind} {i : Int} {n size : Nat} {cs : List AV} (ht : P.underlying t = some (.slice e)) (hs : sizeT P e = some (size + 1)) (h0 : 0 ≤ i) (hlt : i < n) (hl : (i.toNat + 1) * (size + 1) ≤ cs.length) :
    oindex P t H (.sl n cs) (.v (.int k i)) = some (.val (.ep (cs.drop (i.toNat * (size + 1)))), H) := by simp [oindex, ht, hs, h0, hlt, hl]

end
end Go.AI
end
section
namespace Go.AI
open Go

section
variable {E : Env} {call : CallFn} {ops : Array Oper} {r : List Oper} {dst : Option Tmp} {op : Op} {ty : TypeId} {pos : String} {after : Array Edge} {tm : List AV} {df : List (Fn × List AV × List AV)} {H : Heap}

/-- An operation under a guard. -/
def aguard (E : Env) (call : CallFn) (ops : Array Oper) (r : List Oper) (o : Oper) (want : Bool) (tm : List AV) (df : List (Fn × List AV × List AV)) (H : Heap) : Option AV → Option (AExit × St)
  | some x => match wantBy want x with
    | none => none
    | some false => aops E call ops r ⟨putA tm o.dst (.v undef), df, H⟩
    | some true => astep E call ops r o.dst tm df (aop E (aval E tm) o H)
  | none => none

def gslot (ops : Array Oper) (j : Nat) : Option Tmp := (ops[j]?).bind (·.dst)
def gval (tm : List AV) : Option Tmp → Option AV
  | some t => tm[t]?
  | none => none
theorem gval_some {t : Tmp} (h : t < tm.length) : gval tm (some t) = some (tm.getD t (.v undef)) := by
  simp [gval, h]

theorem aops_if {j : Nat} {want : Bool} :
    aops E call ops ({ dst := dst, op := op, type := ty, pos := pos, after := after, guard := some (j, want) } :: r) ⟨tm, df, H⟩ =
      aguard E call ops r { dst := dst, op := op, type := ty, pos := pos, after := after, guard := some (j, want) } want tm df H (gval tm (gslot ops j)) := by
  conv => lhs; unfold aops
  unfold awanted gslot
  simp only
  cases (ops[j]?).bind (·.dst) with
  | none => rfl
  | some t =>
    simp only [gval]
    cases tm[t]? with
    | none => rfl
    | some x =>
      simp only [aguard]
      split <;> simp_all
      unfold astep
      split <;> simp_all
      rename_i g args H1 _
      cases call g args H1 with
      | none => rfl
      | some p =>
        obtain ⟨e, H'⟩ := p
        cases e <;> rfl

theorem aguard_tt {o : Oper} : aguard E call ops r o true tm df H (some (.v (.bool true))) = astep E call ops r o.dst tm df (aop E (aval E tm) o H) := rfl
theorem aguard_ff {o : Oper} : aguard E call ops r o false tm df H (some (.v (.bool false))) = astep E call ops r o.dst tm df (aop E (aval E tm) o H) := rfl
theorem aguard_tf {o : Oper} : aguard E call ops r o true tm df H (some (.v (.bool false))) = aops E call ops r ⟨putA tm o.dst (.v undef), df, H⟩ := rfl
theorem aguard_ft {o : Oper} : aguard E call ops r o false tm df H (some (.v (.bool true))) = aops E call ops r ⟨putA tm o.dst (.v undef), df, H⟩ := rfl
theorem aguard_un {o : Oper} {want : Bool} : aguard E call ops r o want tm df H (some (.v undef)) = aops E call ops r ⟨putA tm o.dst (.v undef), df, H⟩ := rfl

variable {ρ : Operand → AV} {gd : Option (Nat × Bool)}
def opick (H : Heap) (c a b : AV) : Option (ARes × Heap) := match c with
  | .v (.bool t) => some (.val (if t then a else b), H)
  | _ => none
theorem aop_pick {c a b : Operand} : aop E ρ ⟨dst, .pick c a b, ty, pos, after, gd⟩ H = opick H (ρ c) (ρ a) (ρ b) := rfl
theorem opick_true {a b : AV} : opick H (.v (.bool true)) a b = some (.val a, H) := rfl
theorem opick_false {a b : AV} : opick H (.v (.bool false)) a b = some (.val b, H) := rfl

def oun (P : Program) (op : UnOp) (H : Heap) (u : AV) : Option (ARes × Heap) := match u.un with
  | some a => (quiet P (Op.unary op a)).map fun r => (.val (conv r), H)
  | none => none
theorem aop_un {op : UnOp} {t : TypeId} {x : Operand} : aop E ρ ⟨dst, .unOp op t x, ty, pos, after, gd⟩ H = oun E.P op H (ρ x) := rfl
theorem oun_not {P : Program} {b : Bool} : oun P .not H (.v (.bool b)) = some (.val (.v (.bool (!b))), H) := rfl

def olookup (P : Program) (t : TypeId) (H : Heap) (m k : AV) (ok : Bool) : Option (ARes × Heap) :=
  match P.underlying t, k.un with
    | some (.map kt e), some key => match P.underlying kt, zeroT P e with
      | some kd, some z => if keyKind kd key then
          match (match m with | .mp id => (match H[id]? with | some (.map es) => some es | _ => none) | .v (.map none) => some [] | _ => none) with
          | some es => match findKeyA key es 0 with
            | some (some (_, y)) => some (.val (if ok then .tup [y, .v (.bool true)] else y), H)
            | some none => some (.val (if ok then .tup [conv z, .v (.bool false)] else conv z), H)
            | none => none
          | none => none
        else none
      | _, _ => none
    | _, _ => none

theorem aop_lookup {t : TypeId} {m k : Operand} {ok : Bool} : aop E ρ ⟨dst, .lookup t m k ok, ty, pos, after, gd⟩ H = olookup E.P t H (ρ m) (ρ k) ok := rfl
def oupdate (P : Program) (t : TypeId) (H : Heap) (m k x : AV) : Option (ARes × Heap) :=
  match P.underlying t, k.un, m with
    | some (.map kt _), some key, .mp id => match P.underlying kt, H[id]? with
      | some kd, some (.map es) => if keyKind kd key then
          match findKeyA key es 0 with
          | some (some (i, _)) => some (.skip, H.set id (.map (es.set i (key, x))))
          | some none => some (.skip, H.set id (.map (es ++ [(key, x)])))
          | none => none
        else none
      | _, _ => none
    | _, _, _ => none

theorem aop_update {t : TypeId} {m k x : Operand} : aop E ρ ⟨dst, .mapUpdate t m k x, ty, pos, after, gd⟩ H = oupdate E.P t H (ρ m) (ρ k) (ρ x) := rfl
theorem aop_makeMap {t : TypeId} : aop E ρ ⟨dst, .makeMap t none, ty, pos, after, gd⟩ H = some (.val (.mp H.length), H ++ [.map []]) := rfl

end
end Go.AI
end
section
/-! An operation hangs on the operands that it names alone. -/
namespace Go.AI
open Go

theorem map_congr_ops {ρ ρ' : Operand → AV} {xs : List Operand} (h : ∀ x ∈ xs, ρ x = ρ' x) : xs.map ρ = xs.map ρ' := List.map_congr_left h

theorem aop_congr {E : Env} {ρ ρ' : Operand → AV} {o : Oper} {H : Heap} (h : ∀ x ∈ o.op.operands.toList, ρ x = ρ' x) : aop E ρ o H = aop E ρ' o H := by
  cases hop : o.op with
  | alloc t => simp only [aop, hop]
  | build t ps =>
    have hp : (ps.toList.map fun p => (p.1, ρ p.2)) = ps.toList.map fun p => (p.1, ρ' p.2) := List.map_congr_left fun p hm => by rw [h p.2 (by simp only [hop, Op.operands]; simp; exact ⟨p.1, by simpa using hm⟩)]
    simp only [aop, hop, hp]
  | buildSlice t n ps =>
    have hp : (ps.toList.map fun p => (p.1, ρ p.2)) = ps.toList.map fun p => (p.1, ρ' p.2) := List.map_congr_left fun p hm => by rw [h p.2 (by simp only [hop, Op.operands]; simp; exact ⟨p.1, by simpa using hm⟩)]
    simp only [aop, hop, hp]
  | makeFunc f a b =>
    have h1 : a.toList.map ρ = a.toList.map ρ' := map_congr_ops fun x hx => h x (by simp only [hop, Op.operands]; simp; left; simpa using hx)
    have h2 : b.toList.map ρ = b.toList.map ρ' := map_congr_ops fun x hx => h x (by simp only [hop, Op.operands]; simp; right; simpa using hx)
    simp only [aop, hop, h1, h2]
  | slice t x lo hi mx =>
    have h0 : ρ x = ρ' x := h x (by simp [hop, Op.operands])
    have hlo : ∀ y, lo = some y → ρ y = ρ' y := fun y hy => h y (by simp [hop, Op.operands, hy])
    have hhi : ∀ y, hi = some y → ρ y = ρ' y := fun y hy => h y (by simp [hop, Op.operands, hy])
    cases lo with
    | none => cases hi with
      | none => simp only [aop, hop, h0, Option.map_none]
      | some z => simp only [aop, hop, h0, hhi z rfl, Option.map_none, Option.map_some]
    | some y => cases hi with
      | none => simp only [aop, hop, h0, hlo y rfl, Option.map_none, Option.map_some]
      | some z => simp only [aop, hop, h0, hlo y rfl, hhi z rfl, Option.map_some]
  | call c =>
    have ha : c.args.toList.map ρ = c.args.toList.map ρ' := map_congr_ops fun x hx => h x (by
      simp only [hop, Op.operands, Call.operands]
      cases c.callee <;> simp <;> first | (right; simpa using hx) | simpa using hx)
    cases hc : c.callee with
    | value f =>
      have hf : ρ f = ρ' f := h f (by simp [hop, Op.operands, Call.operands, hc])
      simp only [aop, hop, hc, ha, hf]
    | invoke r m => simp only [aop, hop, hc]
    | builtin b =>
      have hm : ∀ x ∈ c.args.toList, ρ x = ρ' x := fun x hx => h x (by simp only [hop, Op.operands, Call.operands, hc]; simpa using hx)
      rcases hA : c.args.toList with _ | ⟨x, _ | ⟨y, _ | ⟨z, r⟩⟩⟩
      · cases b <;> simp only [aop, hop, hc, hA, List.map_nil]
      · have hx := hm x (by rw [hA]; simp)
        rcases hT : c.argTypes.toList with _ | ⟨t, _ | ⟨u, _ | ⟨v, q⟩⟩⟩ <;>cases b <;> simp only [aop, hop, hc, hA, hT, List.map_cons, List.map_nil, hx]
      · have hx := hm x (by rw [hA]; simp)
        have hy := hm y (by rw [hA]; simp)
        rcases hT : c.argTypes.toList with _ | ⟨t, _ | ⟨u, _ | ⟨v, q⟩⟩⟩ <;>cases b <;> simp only [aop, hop, hc, hA, hT, List.map_cons, List.map_nil, hx, hy]
      · rw [hA] at ha
        cases b <;> simp only [aop, hop, hc, hA, ha]
  | defer c =>
    have ha : c.args.toList.map ρ = c.args.toList.map ρ' := map_congr_ops fun x hx => h x (by
      simp only [hop, Op.operands, Call.operands]
      cases c.callee <;> simp <;> first | (right; simpa using hx) | simpa using hx)
    cases hc : c.callee with
    | value f =>
      have hf : ρ f = ρ' f := h f (by simp [hop, Op.operands, Call.operands, hc])
      simp only [aop, hop, hc, ha, hf]
    | invoke r m => simp only [aop, hop, hc]
    | builtin b => simp only [aop, hop, hc]
  | move x => simp only [aop, hop, h x (by simp [hop, Op.operands])]
  | assign x => simp only [aop, hop, h x (by simp [hop, Op.operands])]
  | box t x => simp only [aop, hop, h x (by simp [hop, Op.operands])]
  | load t x => simp only [aop, hop, h x (by simp [hop, Op.operands])]
  | nilCheck x => simp only [aop, hop, h x (by simp [hop, Op.operands])]
  | unOp p t x => simp only [aop, hop, h x (by simp [hop, Op.operands])]
  | convert s d x => simp only [aop, hop, h x (by simp [hop, Op.operands])]
  | makeInterface t x => simp only [aop, hop, h x (by simp [hop, Op.operands])]
  | fieldAddr s x i => simp only [aop, hop, h x (by simp [hop, Op.operands])]
  | field t x i => simp only [aop, hop, h x (by simp [hop, Op.operands])]
  | typeAssert x t u ok => simp only [aop, hop, h x (by simp [hop, Op.operands])]
  | extract x i => simp only [aop, hop, h x (by simp [hop, Op.operands])]
  | panic x => simp only [aop, hop, h x (by simp [hop, Op.operands])]
  | pick c a b => simp only [aop, hop, h c (by simp [hop, Op.operands]), h a (by simp [hop, Op.operands]), h b (by simp [hop, Op.operands])]
  | store t a x => simp only [aop, hop, h a (by simp [hop, Op.operands]), h x (by simp [hop, Op.operands])]
  | binOp op t x y t2 => simp only [aop, hop, h x (by simp [hop, Op.operands]), h y (by simp [hop, Op.operands])]
  | makeSlice t l c => simp only [aop, hop, h l (by simp [hop, Op.operands]), h c (by simp [hop, Op.operands])]
  | indexAddr t x i => simp only [aop, hop, h x (by simp [hop, Op.operands]), h i (by simp [hop, Op.operands])]
  | index t x i => simp only [aop, hop, h x (by simp [hop, Op.operands]), h i (by simp [hop, Op.operands])]
  | lookup t m k ok => simp only [aop, hop, h m (by simp [hop, Op.operands]), h k (by simp [hop, Op.operands])]
  | mapUpdate t m k x => simp only [aop, hop, h m (by simp [hop, Op.operands]), h k (by simp [hop, Op.operands]), h x (by simp [hop, Op.operands])]
  | makeMap t r => simp only [aop, hop]
  | _ => simp only [aop, hop]

end Go.AI
end
section
/-! A region whose order is drawn, and of which no operation turns the heap. -/
namespace Go.AI
open Go

section
variable {E : Env} {call : CallFn} {ops : Array Oper}

theorem atree_const {bf : Array Nat} {l : List (Bool × AV)} {tm : List AV} {H : Heap} (hs : ∀ i, i < ops.size → stepsAt E call ops l tm i H = some H) (hr : E.sameH H H = true) :
    ∀ (fuel : Nat) (rem : List Nat), rem.length < fuel → (∀ e ∈ rem, e < ops.size) → atree E call ops bf l tm H fuel rem H = true
  | 0, _, h, _ => by omega
  | fuel + 1, rem, h, hrem => by
    unfold atree
    simp only [Bool.and_eq_true, List.all_eq_true, Bool.or_eq_true]
    refine ⟨⟨fun i hi => .inr ?_, fun e he => .inr ?_⟩, .inr hr⟩
    · rw [hs i (List.mem_range.1 hi)]; exact hr
    · rw [hs e (hrem e he)]
      have h1 : (rem.erase e).length < fuel := by
        rw [List.length_erase_of_mem he]
        have := List.length_pos_of_mem he
        omega
      exact atree_const hs hr fuel (rem.erase e) h1 fun x hx => hrem x (List.mem_of_mem_erase hx)

def OneConst (E : Env) (call : CallFn) (ops : Array Oper) (H : Heap) (o : Oper) (tm : List AV) (b : Bool) (x : AV) : Prop :=
  awanted ops tm o = some b ∧ (if b = true then aop E (aval E tm) o H = some (.val x, H) ∨ (aop E (aval E tm) o H = some (.skip, H) ∧ x = .v undef) ∨ ∃ g args, aop E (aval E tm) o H = some (.enter g args, H) ∧ call g args H = some (.ret x, H) else x = .v undef)

def ConstRun (E : Env) (call : CallFn) (ops : Array Oper) (H : Heap) : List Oper → List AV → List (Bool × AV) → Prop
  | [], _, l => l = []
  | o :: r, tm, l => ∃ b x l', l = (b, x) :: l' ∧ OneConst E call ops H o tm b x ∧ ConstRun E call ops H r (putA tm o.dst x) l'

theorem const_at {H : Heap} : ∀ {os : List Oper} {tm : List AV} {l : List (Bool × AV)}, ConstRun E call ops H os tm l → l.length = os.length ∧ ∀ (i : Nat) (o : Oper), os[i]? = some o →
    ∃ b x, l[i]? = some (b, x) ∧ OneConst E call ops H o (((os.zip l).take i).foldl (fun tm p => putA tm p.1.dst p.2.2) tm) b x
  | [], tm, l, h => by
    have : l = [] := h
    subst this
    exact ⟨rfl, fun i o e => by simp at e⟩
  | q :: os, tm, l, h => by
    obtain ⟨b, x, l', rfl, h1, h2⟩ := h
    obtain ⟨e1, e2⟩ := const_at h2
    refine ⟨by simp [e1], fun i o ho => ?_⟩
    cases i with
    | zero =>
      simp only [List.getElem?_cons_zero, Option.some.injEq] at ho
      subst ho
      exact ⟨b, x, rfl, by simpa using h1⟩
    | succ i =>
      obtain ⟨b', x', r1, r2⟩ := e2 i o (by simpa using ho)
      exact ⟨b', x', by simpa using r1, by simpa using r2⟩

theorem const_steps {H : Heap} {tm : List AV} {l : List (Bool × AV)} (h : ConstRun E call ops H ops.toList tm l) (hs : ∀ (i : Nat) o, ops[i]? = some o → ∀ t ∈ slotsOf ops o, t < tm.length) (hr : ∀ p ∈ l, E.same p.2 p.2 = true) :
    l.length = ops.size ∧ ∀ i, i < ops.size → stepsAt E call ops l tm i H = some H := by
  obtain ⟨e1, e2⟩ := const_at h
  refine ⟨by simpa using e1, fun i hi => ?_⟩
  have ho : ops[i]? = some ops[i] := Array.getElem?_eq_getElem hi
  obtain ⟨b, x, hl, hw, hone⟩ := e2 i ops[i] (by simp [hi])
  obtain ⟨k1, k2⟩ := endTm_take (tm := tm) e1 i (by simp; omega)
  have hxx : E.same x x = true := hr (b, x) (List.mem_of_getElem? hl)
  generalize ((ops.toList.zip l).take i).foldl (fun tm p => putA tm p.1.dst p.2.2) tm = tmi at hw hone k1 k2
  have hslot := hs i _ ho
  generalize ops[i] = o at ho hw hone hslot
  have hseen : ∀ t, t < tm.length → seenAt ops.toList l tm i t (tm.getD t (.v undef)) = tmi.getD t (.v undef) := fun t ht => by rw [seenAt_eq, k2 t ht]
  have hwant : wantAt ops l tm i o = some b := by
    unfold awanted at hw
    unfold wantAt
    cases hg : o.guard with
    | none => rw [hg] at hw; exact hw
    | some q =>
      obtain ⟨j, want⟩ := q
      rw [hg] at hw
      simp only at hw ⊢
      cases hd : (ops[j]?).bind (·.dst) with
      | none => rw [hd] at hw; cases hw
      | some t =>
        rw [hd] at hw
        simp only at hw ⊢
        have ht : t < tm.length := hslot t (by unfold slotsOf; rw [hg]; simp [hd])
        rw [if_pos ht, hseen t ht]
        have : tmi[t]? = some (tmi.getD t (.v undef)) := by simp [k1, ht]
        rw [this] at hw
        exact hw
  have haop : aop E (rhoAt E ops l tm i o) o H = aop E (aval E tmi) o H := by
    refine aop_congr fun y hy => ?_
    cases y with
    | tmp t =>
      have hin : t ∈ slotsOf ops o := by
        unfold slotsOf
        simp only [List.mem_append, List.mem_filterMap]
        exact .inl (.inr ⟨.tmp t, hy, rfl⟩)
      have ht := hslot t hin
      simp only [rhoAt, aval]
      rw [if_pos ⟨ht, List.contains_iff_mem.2 hin⟩, hseen t ht]
    | _ => rfl
  unfold stepsAt
  rw [ho, hl]
  simp only [hwant]
  cases b with
  | false =>
    have hx : x = .v undef := by simpa using hone
    subst hx
    simp [hxx]
  | true =>
    simp only [if_true] at hone
    simp only [haop]
    rcases hone with h | ⟨h, rfl⟩ | ⟨g, args, h, hc⟩
    · simp [h, hxx]
    · simp [h, hxx]
    · simp [h, hc, hxx]

theorem const_canon {H : Heap} {df : List (Fn × List AV × List AV)} : ∀ {os : List Oper} {tm : List AV} {l : List (Bool × AV)}, ConstRun E call ops H os tm l → ∃ c, acanon E call ops os ⟨tm, df, H⟩ = (c, some (l, ⟨endTm os l tm, df, H⟩))
  | [], tm, l, h => by
    have : l = [] := h
    subst this
    exact ⟨[], rfl⟩
  | o :: r, tm, l, h => by
    obtain ⟨b, x, l', rfl, ⟨hw, hone⟩, h2⟩ := h
    obtain ⟨c, hc⟩ := const_canon (df := df) h2
    have he : endTm (o :: r) ((b, x) :: l') tm = endTm r l' (putA tm o.dst x) := rfl
    rw [he]
    unfold acanon
    simp only [hw]
    cases b with
    | false =>
      have hx : x = .v undef := by simpa using hone
      subst hx
      exact ⟨c, by simp only [hc, addC]; rfl⟩
    | true =>
      simp only [if_true] at hone
      rcases hone with h | ⟨h, rfl⟩ | ⟨g, args, h, hca⟩
      · exact ⟨c, by simp only [h, hc, addC]; rfl⟩
      · exact ⟨c, by simp only [h, hc, addC]; rfl⟩
      · exact ⟨{ g, args, H, r := (.ret x, H) } :: c, by simp only [h, hca, hc, addC]; rfl⟩

theorem recall_is (G : E.Good) {c : List Entry} (hes : ∀ e ∈ c, call e.g e.args e.H = some e.r) : recall E call c = call := by
  funext g args H
  unfold recall
  split
  · rename_i r hk
    exact (known_eq (G := G) hes hk).symm
  · rfl

/-- A region whose order is drawn, and of which no operation turns the heap: as in the text's order. -/
theorem adraw_const (G : E.Good) {H : Heap} {tm : List AV} {df : List (Fn × List AV × List AV)} {l : List (Bool × AV)} (hd : drawOk ops = true) (hs : ∀ (i : Nat) o, ops[i]? = some o → ∀ t ∈ slotsOf ops o, t < tm.length)
    (h : ConstRun E call ops H ops.toList tm l) (hr : ∀ p ∈ l, E.same p.2 p.2 = true) (hrH : E.sameH H H = true) : adraw E call ops ⟨tm, df, H⟩ = some (.normal, ⟨endTm ops.toList l tm, df, H⟩) := by
  obtain ⟨c, hc⟩ := const_canon (df := df) h
  obtain ⟨e1, e2⟩ := const_steps h hs hr
  have hes : ∀ e ∈ c, call e.g e.args e.H = some e.r := by
    have := acanon_entries (E := E) (call := call) (ops := ops) (os := ops.toList) (s := ⟨tm, df, H⟩)
    rw [hc] at this
    exact this
  unfold adraw
  rw [if_pos hd, hc]
  simp only [recall_is G hes]
  have ht := atree_const (bf := Region.before ops) e2 hrH (ops.size + 1) (effs E.P ops) (by
    unfold effs
    exact Nat.lt_succ_of_le (Nat.le_trans (List.length_filter_le _ _) (by simp))) (fun e he => (effs_mem.1 he).1)
  simp [e1, ht]

end
end Go.AI
end
section
namespace Go.AI
open Go
open Classical in
/-- A region's run in the text's order, that stands still where an operation turns the heap. -/
noncomputable def runK (E : Env) (call : CallFn) (ops : Array Oper) (H : Heap) : List Oper → List AV → Option (List AV × List (Bool × AV))
  | [], tm => some (tm, [])
  | o :: r, tm => match awanted ops tm o with
    | none => none
    | some false => (runK E call ops H r (putA tm o.dst (.v undef))).map fun p => (p.1, (false, .v undef) :: p.2)
    | some true => match aop E (aval E tm) o H with
      | some (.val x, H') => if H' = H then (runK E call ops H r (putA tm o.dst x)).map fun p => (p.1, (true, x) :: p.2) else none
      | some (.skip, H') => if H' = H then (runK E call ops H r (putA tm o.dst (.v undef))).map fun p => (p.1, (true, .v undef) :: p.2) else none
      | some (.enter g args, H') => if H' = H then match call g args H with
          | some (.ret x, H2) => if H2 = H then (runK E call ops H r (putA tm o.dst x)).map fun p => (p.1, (true, x) :: p.2) else none
          | _ => none
        else none
      | _ => none

theorem runK_const {E : Env} {call : CallFn} {ops : Array Oper} {H : Heap} : ∀ {os : List Oper} {tm tm' : List AV} {l : List (Bool × AV)}, runK E call ops H os tm = some (tm', l) → ConstRun E call ops H os tm l ∧ tm' = endTm os l tm
  | [], tm, tm', l, h => by
    simp only [runK, Option.some.injEq, Prod.mk.injEq] at h
    obtain ⟨rfl, rfl⟩ := h
    exact ⟨rfl, rfl⟩
  | o :: r, tm, tm', l, h => by
    unfold runK at h
    split at h
    · cases h
    · rename_i hw
      obtain ⟨⟨t1, l1⟩, h1, he⟩ := Option.map_eq_some_iff.1 h
      cases he
      obtain ⟨c1, c2⟩ := runK_const h1
      exact ⟨⟨false, _, _, rfl, ⟨hw, by simp⟩, c1⟩, c2⟩
    · rename_i hw
      split at h
      · rename_i x H' ha
        split at h
        · rename_i hH
          subst hH
          obtain ⟨⟨t1, l1⟩, h1, he⟩ := Option.map_eq_some_iff.1 h
          cases he
          obtain ⟨c1, c2⟩ := runK_const h1
          exact ⟨⟨true, _, _, rfl, ⟨hw, by rw [if_pos rfl]; exact .inl ha⟩, c1⟩, c2⟩
        · cases h
      · rename_i H' ha
        split at h
        · rename_i hH
          subst hH
          obtain ⟨⟨t1, l1⟩, h1, he⟩ := Option.map_eq_some_iff.1 h
          cases he
          obtain ⟨c1, c2⟩ := runK_const h1
          exact ⟨⟨true, _, _, rfl, ⟨hw, by rw [if_pos rfl]; exact .inr (.inl ⟨ha, rfl⟩)⟩, c1⟩, c2⟩
        · cases h
      · rename_i g args H' ha
        split at h
        · rename_i hH
          subst hH
          split at h
          · rename_i x H2 hca
            split at h
            · rename_i hH2
              subst hH2
              obtain ⟨⟨t1, l1⟩, h1, he⟩ := Option.map_eq_some_iff.1 h
              cases he
              obtain ⟨c1, c2⟩ := runK_const h1
              exact ⟨⟨true, _, _, rfl, ⟨hw, by rw [if_pos rfl]; exact .inr (.inr ⟨g, args, ha, hca⟩)⟩, c1⟩, c2⟩
            · cases h
          · cases h
        · cases h
      · cases h

end Go.AI
end
section
/-! Contracts of the library as oracles. -/
namespace Go.AI
open Go Go.RowKit

theorem end_below {E : Env} {g : Ghost} {H : Heap} {w w' : World} (I : Inv E g H w) (hb : Below w.heap.size w w') {x : AV} {v : Value} (r : Rel g x v) : EndOk E g H w (.ret x) H (.returned v) w' := by
  obtain ⟨h1, h2⟩ := I.grow (g' := g) (w' := w') (.refl g) hb.size (fun b hlt => hb.block b hlt) (fun b o u e => .inl e) rfl rfl ⟨hb.os, hb.output⟩
  exact ⟨x, g, rfl, h1, h2, r⟩

/-- A library function that is told by a contract: at known arguments it gives a known value and leaves all that was. -/
theorem orc_below {E : Env} {f : FuncId} {vs : List Value} {v : Value} {g : Ghost} {H : Heap} {w : World} (I : Inv E g H w) {args : List AV} {us : List Value} (hv : unL args = some vs) (ra : RelL g args us)
    (h : Calls E.P f vs.toArray w fun e w' => e = .returned v ∧ Below w.heap.size w w') : Calls E.P f us.toArray w (EndOk E g H w (.ret (conv v)) H) := by
  rw [unL_rel hv ra]
  refine Calls.mono h fun e w' he => ?_
  obtain ⟨rfl, hb⟩ := he
  exact end_below I hb (conv_rel g v)

/-- Cells of a table that is never written, in the world. -/
theorem glob_cell {E : Env} {g : Ghost} {H : Heap} {w : World} (I : Inv E g H w) {gl i : Nat} {x : Value} (h : (E.glob gl)[i]? = some (.v x)) : w.cell? ⟨gl, i, none⟩ = some x := by
  obtain ⟨u, hu, r⟩ := I.glob gl i _ h
  have := I.st _ _ _ hu
  rw [rel_v r] at this
  exact this

end Go.AI
end
section
/-! The abstract run at values that are not told, as a tree of its conditions; contracts, and what they are made of. -/
namespace Go.AI
open Go

section
variable {E : Env} {call : CallFn} {ops : Array Oper} {r : List Oper} {dst : Option Tmp} {tm : List AV} {df : List (Fn × List AV × List AV)} {H H' : Heap} {fuel : Nat} {s : St}

def acond (x y : Option (AExit × St)) : AV → Option (AExit × St)
  | .v (.bool b) => bif b then x else y
  | _ => none
theorem acode_cond {c : Operand} {a b : Code} : acode E call fuel (.cond c a b) s = acond (acode E call fuel a s) (acode E call fuel b s) (aval E s.tm c) := by
  conv => lhs; unfold acode
  unfold acond
  generalize aval E s.tm c = u
  split
  · rfl
  · rfl
  · rename_i h1 h2
    split
    · rename_i b'
      cases b'
      · exact absurd rfl (h2)
      · exact absurd rfl (h1)
    · rfl
theorem acond_bool {x y : Option (AExit × St)} {b : Bool} : acond x y (.v (.bool b)) = bif b then x else y := rfl
theorem abind_cond {f : St → Option (AExit × St)} {b : Bool} {x y : Option (AExit × St)} : abind f (bif b then x else y) = bif b then abind f x else abind f y := by cases b <;> rfl
theorem ablock_cond {id : Nat} {b : Bool} {x y : Option (AExit × St)} : ablock id (bif b then x else y) = bif b then ablock id x else ablock id y := by cases b <;> rfl
theorem ablock_pan {id : Nat} {x : AV} : ablock id (some (.pan x, s)) = some (.pan x, s) := rfl
theorem ablock_ne {id j : Nat} : ablock id (some (.exit j, s)) = if j = id then some (.normal, s) else some (.exit j, s) := rfl
theorem aguard_true {o : Oper} {b : Bool} : aguard E call ops r o true tm df H (some (.v (.bool b))) = bif b then astep E call ops r o.dst tm df (aop E (aval E tm) o H) else aops E call ops r ⟨putA tm o.dst (.v undef), df, H⟩ := by cases b <;> rfl
theorem aguard_false {o : Oper} {b : Bool} : aguard E call ops r o false tm df H (some (.v (.bool b))) = bif b then aops E call ops r ⟨putA tm o.dst (.v undef), df, H⟩ else astep E call ops r o.dst tm df (aop E (aval E tm) o H) := by cases b <;> rfl

def aret (E : Env) (call : CallFn) (ops : Array Oper) (r : List Oper) (dst : Option Tmp) (tm : List AV) (df : List (Fn × List AV × List AV)) : Option (AEnd × Heap) → Option (AExit × St)
  | some (.ret x, H') => aops E call ops r ⟨putA tm dst x, df, H'⟩
  | some (.pan x, H') => some (.pan x, ⟨tm, df, H'⟩)
  | none => none
theorem astep_call {g : FuncId} {args : List AV} : astep E call ops r dst tm df (some (.enter g args, H)) = aret E call ops r dst tm df (call g args H) := by
  simp only [astep]
  cases call g args H with
  | none => rfl
  | some p =>
    obtain ⟨e, H'⟩ := p
    cases e <;> rfl
theorem aret_ret {x : AV} : aret E call ops r dst tm df (some (.ret x, H')) = aops E call ops r ⟨putA tm dst x, df, H'⟩ := rfl
theorem aret_pan {x : AV} : aret E call ops r dst tm df (some (.pan x, H')) = some (.pan x, ⟨tm, df, H'⟩) := rfl
theorem aret_cond {b : Bool} {x y : Option (AEnd × Heap)} : aret E call ops r dst tm df (bif b then x else y) = bif b then aret E call ops r dst tm df x else aret E call ops r dst tm df y := by cases b <;> rfl
theorem astep_dfr {f : Fn} {cap args : List AV} : astep E call ops r dst tm df (some (.dfr f cap args, H)) = aops E call ops r ⟨putA tm dst (.v undef), (f, cap, args) :: df, H⟩ := rfl
theorem astep_cond {b : Bool} {x y : Option (ARes × Heap)} : astep E call ops r dst tm df (bif b then x else y) = bif b then astep E call ops r dst tm df x else astep E call ops r dst tm df y := by cases b <;> rfl

/-! ### A function's end -/
def afin (E : Env) (call : CallFn) (fuel : Nat) (fn : Func) : Option (AExit × St) → Option (AEnd × Heap)
  | some (.normal, s) | some (.ret, s) => adefers E call fuel fn s.tm s.df .ret s.H
  | some (.pan x, s) => adefers E call fuel fn s.tm s.df (.pan x) s.H
  | _ => none
variable {fn : Func}
theorem abody_fin {c : Code} {args : List AV} : abody E call fuel fn c args H = afin E call fuel fn (acode E call fuel c (aframe E fn args H)) := by
  unfold abody afin
  rfl
theorem afin_cond {b : Bool} {x y : Option (AExit × St)} : afin E call fuel fn (bif b then x else y) = bif b then afin E call fuel fn x else afin E call fuel fn y := by cases b <;> rfl
theorem afin_ret : afin E call fuel fn (some (.ret, ⟨tm, [], H⟩)) = (aresults E fn ⟨tm, [], H⟩).map fun x => (.ret x, H) := rfl
theorem afin_normal : afin E call fuel fn (some (.normal, ⟨tm, [], H⟩)) = (aresults E fn ⟨tm, [], H⟩).map fun x => (.ret x, H) := rfl
theorem afin_pan {x : AV} : afin E call fuel fn (some (.pan x, ⟨tm, [], H⟩)) = some (.pan x, H) := rfl
theorem aresults0 (h : fn.results.toList = []) : aresults E fn ⟨tm, df, H⟩ = some (.tup []) := by simp [aresults, h, aresultL]
theorem aresults1 {t : Nat} (h : fn.results.toList = [.tmp t]) : aresults E fn ⟨tm, df, H⟩ = some (tm.getD t (.v undef)) := by simp [aresults, h, aresultL, aresult]
theorem aresults2 {t u : Nat} (h : fn.results.toList = [.tmp t, .tmp u]) : aresults E fn ⟨tm, df, H⟩ = some (.tup [tm.getD t (.v undef), tm.getD u (.v undef)]) := by simp [aresults, h, aresultL, aresult]
theorem aresults3 {t u v : Nat} (h : fn.results.toList = [.tmp t, .tmp u, .tmp v]) : aresults E fn ⟨tm, df, H⟩ = some (.tup [tm.getD t (.v undef), tm.getD u (.v undef), tm.getD v (.v undef)]) := by simp [aresults, h, aresultL, aresult]
theorem option_map_cond {α β : Type} {f : α → β} {b : Bool} {x y : Option α} : Option.map f (bif b then x else y) = bif b then Option.map f x else Option.map f y := by cases b <;> rfl

/-! ### Contracts -/
/-- What a call comes to at these arguments, in this heap: in every world. -/
def Con (E : Env) (f : FuncId) (args : List AV) (H : Heap) (r : AEnd) (H' : Heap) : Prop :=
  ∀ g w vs, Inv E g H w → RelL g args vs → Calls E.P f vs.toArray w (EndOk E g H w r H')

theorem con_body (G : E.Good) (hm : E.P.follows .mixedOrders = true) (hc : CallOk E call) {n : Nat} {f : FuncId} {c : Code} {args : List AV} {R : AEnd} (hcode : E.code f = some (fn, c)) (h : abody E call n fn c args H = some (R, H')) :
    Con E f args H (gc H.length (R, H')).1 (gc H.length (R, H')).2 := fun _ _ _ I ra =>
  Calls.mono (abody_ok G hc (adraw_ok G hm hc) n hcode h I ra) fun _ _ he => end_gc G I he

/-- No object is told: the ghost without them. -/
def Ghost.bare (g : Ghost) : Ghost := { loc := fun _ => none, aloc := fun _ _ => none, st := g.st }

theorem rel_bare {g : Ghost} {x : AV} {u : Value} (r : Rel g x u) (h : x.under 0 = true) : Rel g.bare x u := by
  have := under_rel (n := 0) r h
  exact this.mono ⟨fun i b e => by simp [Ghost.cut] at e, fun i n b e => by simp [Ghost.cut] at e, fun b o u e => e⟩
theorem relL_bare {g : Ghost} {xs : List AV} {us : List Value} (r : RelL g xs us) (h : AV.underL 0 xs = true) : RelL g.bare xs us := ⟨r.1, fun i x u e e' => rel_bare (r.2 i x u e e') (underL_get h i x e)⟩

theorem inv_bare (G : E.Good) {g : Ghost} {w : World} (I : Inv E g H w) : Inv E g.bare [] w where
  st := I.st
  own := fun b o u id ob h hid => by simp at hid
  objs := fun id ob hid => by simp at hid
  dis := fun i j o o' b hi => by simp at hi
  dom := fun id b h => by simp [Ghost.bare] at h
  adom := fun id n p h => by simp [Ghost.bare] at h
  amax := fun id e n fz cs h => by simp at h
  glob := fun gl i x hx => by
    obtain ⟨u, h1, h2⟩ := I.glob gl i x hx
    exact ⟨u, h1, rel_bare h2 (underL_get (G.glob gl) i x hx)⟩

theorem inv_back {g g' : Ghost} {w w' : World} (I : Inv E g H w) (I' : Inv E g' [] w') (S : Step g.bare [] w g' [] w') :
    ∃ g2, g'.Le g2 ∧ Inv E g2 H w' ∧ Step g H w g2 H w' := by
  have hk : ∀ b, b < w.heap.size → w'.heap[b]? = w.heap[b]? := fun b hb => (S.keep b hb fun id o h => by simp at h).1
  have hg0 : ∀ i, g'.loc i = none := fun i => by
    cases h : g'.loc i with
    | none => rfl
    | some b => have := (I'.dom _ _ h).1; simp at this
  have hg1 : ∀ i n, g'.aloc i n = none := fun i n => by
    cases h : g'.aloc i n with
    | none => rfl
    | some b => have := (I'.adom _ _ _ h).1; simp at this
  have le : g.Le { loc := g.loc, aloc := g.aloc, st := g'.st } := ⟨fun _ _ h => h, fun _ _ _ h => h, S.le.st⟩
  obtain ⟨h1, h2⟩ := I.grow le S.size hk (fun b o u e => (S.fresh b o u e).imp (fun e => e) fun h => ⟨h, I'.st _ _ _ e⟩) rfl rfl S.os
  refine ⟨{ loc := g.loc, aloc := g.aloc, st := g'.st }, ⟨?_, ?_, fun _ _ _ e => e⟩, h1, h2⟩
  · intro i b e; rw [hg0] at e; exact absurd e (by simp)
  · intro i n b e; rw [hg1] at e; exact absurd e (by simp)

/-- What is handed no objects and hands none back, and leaves none, leaves all there was as it was. -/
theorem con_frame (G : E.Good) {f : FuncId} {args : List AV} {R : AEnd} (ha : AV.underL 0 args = true) (h : Con E f args [] R []) (H : Heap) : Con E f args H R H := fun g w vs I ra =>
  Calls.mono (h _ w vs (inv_bare G I) (relL_bare ra ha)) fun e w' he => by
    cases e with
    | returned v =>
      obtain ⟨x, g', rfl, I', S, rx⟩ := he
      obtain ⟨g2, le, I2, S2⟩ := inv_back I I' S
      exact ⟨x, g2, rfl, I2, S2, rx.mono le⟩
    | panicked chain =>
      obtain ⟨x, v, g', rfl, hch, I', S, rx⟩ := he
      obtain ⟨g2, le, I2, S2⟩ := inv_back I I' S
      exact ⟨x, v, g2, rfl, hch, I2, S2, rx.mono le⟩
    | outgrown => exact he.elim

/-- What a function is said to come to. -/
abbrev Spec := List AV → Heap → Option (AEnd × Heap)
def SpecOk (E : Env) (f : FuncId) (s : Spec) : Prop := ∀ args H r H', s args H = some (r, H') → Con E f args H r H'

/-- One function more is told. -/
def told (f : FuncId) (s : Spec) (call : CallFn) : CallFn := fun g args H => if g = f then s args H else call g args H
theorem told_self {f : FuncId} {s : Spec} {args : List AV} : told f s call f args H = s args H := if_pos rfl
theorem told_ne {f g : FuncId} {s : Spec} {args : List AV} (h : g ≠ f) : told f s call g args H = call g args H := if_neg h
theorem told_ok {f : FuncId} {s : Spec} (h : SpecOk E f s) (hc : CallOk E call) : CallOk E (told f s call) := by
  intro g args H r H' e
  unfold told at e
  split at e
  · rename_i hg; subst hg; exact h args H r H' e
  · exact hc g args H r H' e
def noCall : CallFn := fun _ _ _ => none
theorem noCall_ok : CallOk E noCall := fun f args H r H' h => by cases h

open Classical in
/-- A function of data: what it gives at the arguments that stand for them; it leaves the heap. -/
noncomputable def specOf {α : Type} (enc : α → List AV) (p : α → Prop) (F : α → AEnd) : Spec := fun args H =>
  if h : ∃ a, enc a = args ∧ p a then some (F (Classical.choose h), H) else none
theorem specOf_eq {α : Type} {enc : α → List AV} {p : α → Prop} {F : α → AEnd} (inj : ∀ a b, enc a = enc b → a = b) {a : α} (ha : p a) : specOf enc p F (enc a) H = some (F a, H) := by
  have h : ∃ b, enc b = enc a ∧ p b := ⟨a, rfl, ha⟩
  unfold specOf
  rw [dif_pos h, inj _ _ (Classical.choose_spec h).1]
theorem specOf_ok {α : Type} {enc : α → List AV} {p : α → Prop} {F : α → AEnd} {f : FuncId} (h : ∀ a, p a → ∀ H, Con E f (enc a) H (F a) H) : SpecOk E f (specOf enc p F) := by
  intro args H r H' e
  unfold specOf at e
  split at e
  · rename_i hx
    cases e
    obtain ⟨h1, h2⟩ := Classical.choose_spec hx
    have := h _ h2 H
    rw [h1] at this
    exact this
  · cases e

/-- A function is entered with what is told of the others: nothing is in the heap, nothing is left there. -/
theorem con_walk (G : E.Good) (hm : E.P.follows .mixedOrders = true) (hc : CallOk E call) {n : Nat} {f : FuncId} {c : Code} {args : List AV} {R : AEnd} (hcode : E.code f = some (fn, c)) (ha : AV.underL 0 args = true) (hR : R.under 0 = true)
    (h : ∃ H', abody E call n fn c args [] = some (R, H')) (H : Heap) : Con E f args H R H := by
  obtain ⟨H', h⟩ := h
  refine con_frame G ha ?_ H
  have := con_body G hm hc hcode h
  have hg : gc ([] : Heap).length (R, H') = (R, []) := by
    unfold gc
    simp [hR]
  rw [hg] at this
  exact this

end
end Go.AI
end
section
/-! A region whose order is drawn, of which the last operation alone turns the heap, and hangs on all others. -/
namespace Go.AI
open Go

section
variable {E : Env} {call : CallFn} {ops : Array Oper}

theorem canon_append {H : Heap} {df : List (Fn × List AV × List AV)} {rest : List Oper} : ∀ {os : List Oper} {tm : List AV} {l : List (Bool × AV)}, ConstRun E call ops H os tm l →
    ∃ c, acanon E call ops (os ++ rest) ⟨tm, df, H⟩ = (c ++ (acanon E call ops rest ⟨endTm os l tm, df, H⟩).1, (acanon E call ops rest ⟨endTm os l tm, df, H⟩).2.map fun p => (l ++ p.1, p.2))
  | [], tm, l, h => by
    have : l = [] := h
    subst this
    refine ⟨[], ?_⟩
    show acanon E call ops rest ⟨tm, df, H⟩ = _
    have he : endTm [] [] tm = tm := rfl
    rw [he]
    simp
  | o :: r, tm, l, h => by
    obtain ⟨b, x, l', rfl, ⟨hw, hone⟩, h2⟩ := h
    obtain ⟨c, hc⟩ := canon_append (df := df) (rest := rest) h2
    have he : endTm (o :: r) ((b, x) :: l') tm = endTm r l' (putA tm o.dst x) := rfl
    rw [he]
    have hmap : ∀ (q : Option (List (Bool × AV) × St)), (q.map fun p => (l' ++ p.1, p.2)).map (fun p => ((b, x) :: p.1, p.2)) = q.map fun p => ((b, x) :: l' ++ p.1, p.2) := fun q => by cases q <;> rfl
    rw [List.cons_append]
    conv => enter [1, c, 1]; unfold acanon
    simp only [hw]
    cases b with
    | false =>
      have hx : x = .v undef := by simpa using hone
      subst hx
      refine ⟨c, ?_⟩
      simp only [hc, addC, hmap]
    | true =>
      simp only [if_true] at hone
      rcases hone with h | ⟨h, rfl⟩ | ⟨g, args, h, hca⟩
      · refine ⟨c, ?_⟩
        simp only [h, hc, addC, hmap]
      · refine ⟨c, ?_⟩
        simp only [h, hc, addC, hmap]
      · refine ⟨{ g, args, H, r := (.ret x, H) } :: c, ?_⟩
        simp only [h, hca, hc, addC, hmap, List.cons_append]

/-- One operation, at what it sees. -/
def lastIs (E : Env) (call : CallFn) (ops : Array Oper) (o : Oper) (tm : List AV) (H : Heap) (x : AV) (H' : Heap) : Prop :=
  awanted ops tm o = some true ∧ (aop E (aval E tm) o H = some (.val x, H') ∨ (aop E (aval E tm) o H = some (.skip, H') ∧ x = .v undef) ∨ ∃ g args H1, aop E (aval E tm) o H = some (.enter g args, H1) ∧ call g args H1 = some (.ret x, H'))

theorem canon_last {o : Oper} {tm : List AV} {df : List (Fn × List AV × List AV)} {H H' : Heap} {x : AV} (h : lastIs E call ops o tm H x H') :
    (acanon E call ops [o] ⟨tm, df, H⟩).2 = some ([(true, x)], ⟨putA tm o.dst x, df, H'⟩) := by
  obtain ⟨hw, h | ⟨h, rfl⟩ | ⟨g, args, H1, h, hc⟩⟩ := h
  · unfold acanon; simp only [hw, h]; unfold acanon; rfl
  · unfold acanon; simp only [hw, h]; unfold acanon; rfl
  · unfold acanon; simp only [hw, h, hc]; unfold acanon; rfl

/-- What an operation sees, by the run in the text's order up to it. -/
theorem seen_run {os : List Oper} {l : List (Bool × AV)} {tm tmi : List AV} {i : Nat} {o : Oper} (ho : ops[i]? = some o) (hos : ops.toList = os) (hlen : l.length = os.length)
    (hi : ((os.zip l).take i).foldl (fun tm p => putA tm p.1.dst p.2.2) tm = tmi) (hs : ∀ t ∈ slotsOf ops o, t < tm.length) {H : Heap} :
    wantAt ops l tm i o = awanted ops tmi o ∧ aop E (rhoAt E ops l tm i o) o H = aop E (aval E tmi) o H := by
  subst hos
  obtain ⟨k1, k2⟩ := endTm_take (tm := tm) hlen i (by have := (Array.getElem?_eq_some_iff.1 ho).1; simp; omega)
  rw [hi] at k1 k2
  have hseen : ∀ t, t < tm.length → seenAt ops.toList l tm i t (tm.getD t (.v undef)) = tmi.getD t (.v undef) := fun t ht => by rw [seenAt_eq, k2 t ht]
  constructor
  · unfold awanted wantAt
    cases hg : o.guard with
    | none => rfl
    | some q =>
      obtain ⟨j, want⟩ := q
      simp only
      cases hd : (ops[j]?).bind (·.dst) with
      | none => rfl
      | some t =>
        simp only
        have ht : t < tm.length := hs t (by unfold slotsOf; rw [hg]; simp [hd])
        rw [if_pos ht, hseen t ht]
        have : tmi[t]? = some (tmi.getD t (.v undef)) := by simp [k1, ht]
        rw [this]
  · refine aop_congr fun y hy => ?_
    cases y with
    | tmp t =>
      have hin : t ∈ slotsOf ops o := by
        unfold slotsOf
        simp only [List.mem_append, List.mem_filterMap]
        exact .inl (.inr ⟨.tmp t, hy, rfl⟩)
      have ht := hs t hin
      simp only [rhoAt, aval]
      rw [if_pos ⟨ht, List.contains_iff_mem.2 hin⟩, hseen t ht]
    | _ => rfl

theorem adraw_last (G : E.Good) {H H' : Heap} {tm : List AV} {df : List (Fn × List AV × List AV)} {l : List (Bool × AV)} {pre : List Oper} {o : Oper} {x : AV} (hops : ops.toList = pre ++ [o]) (hd : drawOk ops = true)
    (hs : ∀ (i : Nat) o, ops[i]? = some o → ∀ t ∈ slotsOf ops o, t < tm.length) (heff : effs E.P ops = [pre.length])
    (hbf : ∀ i, i < pre.length → ((Region.before ops).getD pre.length 0).testBit i = true)
    (h : ConstRun E call ops H pre tm l) (hlast : lastIs E call ops o (endTm pre l tm) H x H') (hr : ∀ y, E.same y y = true) (hrH : ∀ K, E.sameH K K = true) :
    adraw E call ops ⟨tm, df, H⟩ = some (.normal, ⟨putA (endTm pre l tm) o.dst x, df, H'⟩) := by
  obtain ⟨c, hc⟩ := canon_append (df := df) (rest := [o]) h
  rw [canon_last hlast] at hc
  simp only [Option.map_some] at hc
  have hes : ∀ e ∈ c ++ (acanon E call ops [o] ⟨endTm pre l tm, df, H⟩).1, call e.g e.args e.H = some e.r := by
    have := acanon_entries (E := E) (call := call) (ops := ops) (os := pre ++ [o]) (s := ⟨tm, df, H⟩)
    rw [hc] at this
    exact this
  obtain ⟨e1, e2⟩ := const_at h
  have hsz : ops.size = pre.length + 1 := by rw [← Array.length_toList, hops]; simp
  have hlen : (l ++ [(true, x)]).length = (pre ++ [o]).length := by simp [e1]
  have hget : ∀ i, i < pre.length → ops[i]? = pre[i]? := fun i hi => by
    rw [← Array.getElem?_toList, hops, List.getElem?_append_left hi]
  have hgo : ops[pre.length]? = some o := by rw [← Array.getElem?_toList, hops]; simp
  have hzip : (pre ++ [o]).zip (l ++ [(true, x)]) = pre.zip l ++ [(o, (true, x))] := by
    rw [List.zip_append e1.symm]; rfl
  have hzl : (pre.zip l).length = pre.length := by simp [e1]
  have htake : ∀ i, i ≤ pre.length → ((pre ++ [o]).zip (l ++ [(true, x)])).take i = (pre.zip l).take i := fun i hi => by
    rw [hzip, List.take_append_of_le_length (by omega)]
  have step : ∀ i, i < pre.length → stepsAt E call ops (l ++ [(true, x)]) tm i H = some H := fun i hi => by
    obtain ⟨b, y, hl, hw, hone⟩ := e2 i pre[i] (List.getElem?_eq_getElem hi)
    have ho : ops[i]? = some pre[i] := by rw [hget i hi]; exact List.getElem?_eq_getElem hi
    have hl' : (l ++ [(true, x)])[i]? = some (b, y) := by rw [List.getElem?_append_left (by rw [e1]; exact hi)]; exact hl
    obtain ⟨w1, w2⟩ := seen_run (E := E) (H := H) (l := l ++ [(true, x)]) (tm := tm) ho hops hlen rfl (hs i _ ho)
    rw [htake i (by omega)] at w1 w2
    unfold stepsAt
    simp only [ho, hl', w1, hw, w2]
    cases b with
    | false =>
      have hx : y = .v undef := by simpa using hone
      subst hx
      simp [hr]
    | true =>
      simp only [if_true] at hone
      rcases hone with h | ⟨h, rfl⟩ | ⟨g, args, h, hc⟩
      · simp [h, hr]
      · simp [h, hr]
      · simp [h, hc, hr]
  have stepE : stepsAt E call ops (l ++ [(true, x)]) tm pre.length H = some H' := by
    have hl' : (l ++ [(true, x)])[pre.length]? = some (true, x) := by rw [← e1]; simp
    obtain ⟨w1, w2⟩ := seen_run (E := E) (H := H) (l := l ++ [(true, x)]) (tm := tm) hgo hops hlen rfl (hs _ _ hgo)
    rw [htake _ (Nat.le_refl _), ← hzl, List.take_length] at w1 w2
    have he : List.foldl (fun tm p => putA tm p.1.dst p.2.2) tm (pre.zip l) = endTm pre l tm := rfl
    rw [he] at w1 w2
    rw [hzl] at w1 w2
    unfold stepsAt
    obtain ⟨hw, h | ⟨h, rfl⟩ | ⟨g, args, H1, h, hc⟩⟩ := hlast
    · simp [hgo, hl', w1, hw, w2, h, hr]
    · simp [hgo, hl', w1, hw, w2, h, hr]
    · simp [hgo, hl', w1, hw, w2, h, hc, hr]
  have hisE : ((ops[pre.length]?).map (isEff E.P)).getD true = true ∧ ((ops[pre.length]?).map (isEff E.P)).getD false = true := by
    have : pre.length ∈ effs E.P ops := by rw [heff]; simp
    have := List.mem_filter.1 this
    rw [hgo] at this ⊢
    simpa using this.2
  have tree2 : atree E call ops (Region.before ops) (l ++ [(true, x)]) tm H' (pre.length + 1) [] H' = true := by
    unfold atree
    simp only [Bool.and_eq_true, List.all_eq_true, Bool.or_eq_true]
    refine ⟨⟨fun i hi => ?_, fun e he => by simp at he⟩, .inr (hrH _)⟩
    rw [List.mem_range, hsz] at hi
    rcases Nat.lt_or_ge i pre.length with hi' | hi'
    · refine .inl (.inr ?_)
      rw [List.any_eq_true]
      refine ⟨pre.length, List.mem_range.2 (by omega), ?_⟩
      rw [hisE.2, hbf i hi']; rfl
    · have : i = pre.length := by omega
      subst this
      exact .inl (.inl (.inl hisE.1))
  have tree1 : atree E call ops (Region.before ops) (l ++ [(true, x)]) tm H' (ops.size + 1) [pre.length] H = true := by
    unfold atree
    simp only [Bool.and_eq_true, List.all_eq_true, Bool.or_eq_true]
    refine ⟨⟨fun i hi => ?_, fun e he => ?_⟩, .inl rfl⟩
    · rw [List.mem_range, hsz] at hi
      rcases Nat.lt_or_ge i pre.length with hi' | hi'
      · refine .inr ?_
        rw [step i hi']
        exact hrH _
      · have : i = pre.length := by omega
        subst this
        exact .inl (.inl (.inl hisE.1))
    · have : e = pre.length := by simpa using he
      subst this
      refine .inr ?_
      rw [stepE]
      have : [pre.length].erase pre.length = [] := by simp
      simp only [this, hsz]
      exact tree2
  have hEnd : endTm ops.toList (l ++ [(true, x)]) tm = putA (endTm pre l tm) o.dst x := by
    unfold endTm
    rw [hops, hzip, List.foldl_append]; rfl
  unfold adraw
  rw [if_pos hd, hops, hc]
  simp only [recall_is G hes, heff, tree1, ← hops, hEnd]
  simp [e1, hsz]

/-- The functional run of such a region. -/
def runLast (E : Env) (call : CallFn) (ops : Array Oper) (df : List (Fn × List AV × List AV)) (H : Heap) (o : Oper) : Option (List AV × List (Bool × AV)) → Option (AExit × St)
  | some (tm, _) => if awanted ops tm o = some true then match aop E (aval E tm) o H with
      | some (.val x, H') => some (.normal, ⟨putA tm o.dst x, df, H'⟩)
      | some (.skip, H') => some (.normal, ⟨putA tm o.dst (.v undef), df, H'⟩)
      | some (.enter g args, H1) => match call g args H1 with
        | some (.ret x, H') => some (.normal, ⟨putA tm o.dst x, df, H'⟩)
        | _ => none
      | _ => none
    else none
  | none => none

theorem adraw_runLast (G : E.Good) {H : Heap} {tm : List AV} {df : List (Fn × List AV × List AV)} {pre : List Oper} {o : Oper} {q : AExit × St} (hops : ops.toList = pre ++ [o]) (hd : drawOk ops = true)
    (hs : ∀ (i : Nat) o, ops[i]? = some o → ∀ t ∈ slotsOf ops o, t < tm.length) (heff : effs E.P ops = [pre.length])
    (hbf : ∀ i, i < pre.length → ((Region.before ops).getD pre.length 0).testBit i = true) (hr : ∀ y, E.same y y = true) (hrH : ∀ K, E.sameH K K = true)
    (h : runLast E call ops df H o (runK E call ops H pre tm) = some q) : adraw E call ops ⟨tm, df, H⟩ = some q := by
  cases hk : runK E call ops H pre tm with
  | none => rw [hk] at h; cases h
  | some p =>
    obtain ⟨tm1, l⟩ := p
    obtain ⟨c1, rfl⟩ := runK_const hk
    rw [hk] at h
    unfold runLast at h
    simp only at h
    split at h
    · rename_i hw
      split at h
      · rename_i x H' ha
        cases h
        exact adraw_last G hops hd hs heff hbf c1 ⟨hw, .inl ha⟩ hr hrH
      · rename_i H' ha
        cases h
        exact adraw_last G hops hd hs heff hbf c1 ⟨hw, .inr (.inl ⟨ha, rfl⟩)⟩ hr hrH
      · rename_i g args H1 ha
        split at h
        · rename_i x H' hc
          cases h
          exact adraw_last G hops hd hs heff hbf c1 ⟨hw, .inr (.inr ⟨g, args, H1, ha, hc⟩)⟩ hr hrH
        · cases h
      · cases h
    · cases h

theorem adraw_runK (G : E.Good) {H : Heap} {tm tm' : List AV} {df : List (Fn × List AV × List AV)} {l : List (Bool × AV)} (hd : drawOk ops = true) (hs : ∀ (i : Nat) o, ops[i]? = some o → ∀ t ∈ slotsOf ops o, t < tm.length)
    (hr : ∀ y, E.same y y = true) (hrH : ∀ K, E.sameH K K = true) (h : runK E call ops H ops.toList tm = some (tm', l)) : adraw E call ops ⟨tm, df, H⟩ = some (.normal, ⟨tm', df, H⟩) := by
  obtain ⟨c1, rfl⟩ := runK_const h
  exact adraw_const G hd hs c1 (fun p _ => hr _) (hrH _)

end
end Go.AI
end
section
/-! A region whose order is drawn, of which one operation turns the heap: those ahead of it hang on nothing that it does, those behind it hang on it. -/
namespace Go.AI
open Go

section
variable {E : Env} {call : CallFn} {ops : Array Oper}

theorem canon_one {o : Oper} {rest : List Oper} {tm : List AV} {df : List (Fn × List AV × List AV)} {H H' : Heap} {x : AV} (h : lastIs E call ops o tm H x H') :
    (acanon E call ops (o :: rest) ⟨tm, df, H⟩).2 = (acanon E call ops rest ⟨putA tm o.dst x, df, H'⟩).2.map fun p => ((true, x) :: p.1, p.2) := by
  obtain ⟨hw, h | ⟨h, rfl⟩ | ⟨g, args, H1, h, hc⟩⟩ := h
  · conv => lhs; unfold acanon
    simp only [hw, h, addC]
  · conv => lhs; unfold acanon
    simp only [hw, h, addC]
  · conv => lhs; unfold acanon
    simp only [hw, h, hc, addC]

theorem adraw_mid (G : E.Good) {H H' : Heap} {tm : List AV} {df : List (Fn × List AV × List AV)} {l1 l2 : List (Bool × AV)} {pre post : List Oper} {o : Oper} {x : AV} (hops : ops.toList = pre ++ o :: post) (hd : drawOk ops = true)
    (hs : ∀ (i : Nat) o, ops[i]? = some o → ∀ t ∈ slotsOf ops o, t < tm.length) (heff : effs E.P ops = [pre.length])
    (hbf : ∀ i, i < pre.length → ((Region.before ops).getD pre.length 0).testBit i = true)
    (hbp : ∀ i, pre.length < i → i < ops.size → ((Region.before ops).getD i 0).testBit pre.length = true)
    (h : ConstRun E call ops H pre tm l1) (hlast : lastIs E call ops o (endTm pre l1 tm) H x H') (h2 : ConstRun E call ops H' post (putA (endTm pre l1 tm) o.dst x) l2)
    (hr : ∀ y, E.same y y = true) (hrH : ∀ K, E.sameH K K = true) :
    adraw E call ops ⟨tm, df, H⟩ = some (.normal, ⟨endTm post l2 (putA (endTm pre l1 tm) o.dst x), df, H'⟩) := by
  obtain ⟨c, hc⟩ := canon_append (df := df) (rest := o :: post) h
  obtain ⟨c2, hc2⟩ := const_canon (df := df) h2
  rw [canon_one hlast, hc2] at hc
  simp only [Option.map_some] at hc
  have hes : ∀ e ∈ c ++ (acanon E call ops (o :: post) ⟨endTm pre l1 tm, df, H⟩).1, call e.g e.args e.H = some e.r := by
    have := acanon_entries (E := E) (call := call) (ops := ops) (os := pre ++ o :: post) (s := ⟨tm, df, H⟩)
    rw [hc] at this
    exact this
  obtain ⟨e1, e2⟩ := const_at h
  obtain ⟨f1, f2⟩ := const_at h2
  have hsz : ops.size = pre.length + 1 + post.length := by rw [← Array.length_toList, hops]; simp; omega
  generalize hL : l1 ++ (true, x) :: l2 = L at *
  have hlen : L.length = (pre ++ o :: post).length := by rw [← hL]; simp [e1, f1]
  have hget : ∀ i, i < pre.length → ops[i]? = pre[i]? := fun i hi => by
    rw [← Array.getElem?_toList, hops, List.getElem?_append_left hi]
  have hgo : ops[pre.length]? = some o := by rw [← Array.getElem?_toList, hops]; simp
  have hgp : ∀ i, ops[pre.length + 1 + i]? = post[i]? := fun i => by
    rw [← Array.getElem?_toList, hops, List.getElem?_append_right (by omega), show pre.length + 1 + i - pre.length = i + 1 by omega]; rfl
  have hzip : (pre ++ o :: post).zip L = pre.zip l1 ++ (o, (true, x)) :: post.zip l2 := by
    rw [← hL, List.zip_append e1.symm]; rfl
  have hzl : (pre.zip l1).length = pre.length := by simp [e1]
  have htake : ∀ i, i ≤ pre.length → ((pre ++ o :: post).zip L).take i = (pre.zip l1).take i := fun i hi => by
    rw [hzip, List.take_append_of_le_length (by omega)]
  have htake2 : ∀ i, ((pre ++ o :: post).zip L).take (pre.length + 1 + i) = pre.zip l1 ++ (o, (true, x)) :: (post.zip l2).take i := fun i => by
    rw [hzip, List.take_append, hzl, List.take_of_length_le (by omega), show pre.length + 1 + i - pre.length = i + 1 by omega, List.take_succ_cons]
  have step : ∀ i, i < pre.length → stepsAt E call ops L tm i H = some H := fun i hi => by
    obtain ⟨b, y, hl, hw, hone⟩ := e2 i pre[i] (List.getElem?_eq_getElem hi)
    have ho : ops[i]? = some pre[i] := by rw [hget i hi]; exact List.getElem?_eq_getElem hi
    have hl' : L[i]? = some (b, y) := by rw [← hL, List.getElem?_append_left (by rw [e1]; exact hi)]; exact hl
    obtain ⟨w1, w2⟩ := seen_run (E := E) (H := H) (l := L) (tm := tm) ho hops hlen rfl (hs i _ ho)
    rw [htake i (by omega)] at w1 w2
    unfold stepsAt
    simp only [ho, hl', w1, hw, w2]
    cases b with
    | false =>
      have hx : y = .v undef := by simpa using hone
      subst hx
      simp [hr]
    | true =>
      simp only [if_true] at hone
      rcases hone with h | ⟨h, rfl⟩ | ⟨g, args, h, hc⟩
      · simp [h, hr]
      · simp [h, hr]
      · simp [h, hc, hr]
  have stepP : ∀ i, i < post.length → stepsAt E call ops L tm (pre.length + 1 + i) H' = some H' := fun i hi => by
    obtain ⟨b, y, hl, hw, hone⟩ := f2 i post[i] (List.getElem?_eq_getElem hi)
    have ho : ops[pre.length + 1 + i]? = some post[i] := by rw [hgp i]; exact List.getElem?_eq_getElem hi
    have hl' : L[pre.length + 1 + i]? = some (b, y) := by
      rw [← hL, List.getElem?_append_right (by omega), e1, show pre.length + 1 + i - pre.length = i + 1 by omega]; exact hl
    obtain ⟨w1, w2⟩ := seen_run (E := E) (H := H') (l := L) (tm := tm) ho hops hlen rfl (hs _ _ ho)
    rw [htake2 i] at w1 w2
    simp only [List.foldl_append, List.foldl_cons] at w1 w2
    have he : List.foldl (fun tm p => putA tm p.1.dst p.2.2) tm (pre.zip l1) = endTm pre l1 tm := rfl
    rw [he] at w1 w2
    unfold stepsAt
    simp only [ho, hl', w1, hw, w2]
    cases b with
    | false =>
      have hx : y = .v undef := by simpa using hone
      subst hx
      simp [hr]
    | true =>
      simp only [if_true] at hone
      rcases hone with h | ⟨h, rfl⟩ | ⟨g, args, h, hc⟩
      · simp [h, hr]
      · simp [h, hr]
      · simp [h, hc, hr]
  have stepE : stepsAt E call ops L tm pre.length H = some H' := by
    have hl' : L[pre.length]? = some (true, x) := by rw [← hL, ← e1]; simp
    obtain ⟨w1, w2⟩ := seen_run (E := E) (H := H) (l := L) (tm := tm) hgo hops hlen rfl (hs _ _ hgo)
    rw [htake _ (Nat.le_refl _), ← hzl, List.take_length] at w1 w2
    have he : List.foldl (fun tm p => putA tm p.1.dst p.2.2) tm (pre.zip l1) = endTm pre l1 tm := rfl
    rw [he] at w1 w2
    rw [hzl] at w1 w2
    unfold stepsAt
    obtain ⟨hw, h | ⟨h, rfl⟩ | ⟨g, args, H1, h, hc⟩⟩ := hlast
    · simp [hgo, hl', w1, hw, w2, h, hr]
    · simp [hgo, hl', w1, hw, w2, h, hr]
    · simp [hgo, hl', w1, hw, w2, h, hc, hr]
  have hisE : ((ops[pre.length]?).map (isEff E.P)).getD true = true ∧ ((ops[pre.length]?).map (isEff E.P)).getD false = true := by
    have : pre.length ∈ effs E.P ops := by rw [heff]; simp
    have := List.mem_filter.1 this
    rw [hgo] at this ⊢
    simpa using this.2
  have tree2 : ∀ f, atree E call ops (Region.before ops) L tm H' (f + 1) [] H' = true := fun f => by
    unfold atree
    simp only [Bool.and_eq_true, List.all_eq_true, Bool.or_eq_true]
    refine ⟨⟨fun i hi => ?_, fun e he => by simp at he⟩, .inr (hrH _)⟩
    rw [List.mem_range, hsz] at hi
    rcases Nat.lt_trichotomy i pre.length with hi' | hi' | hi'
    · refine .inl (.inr ?_)
      rw [List.any_eq_true]
      refine ⟨pre.length, List.mem_range.2 (by omega), ?_⟩
      rw [hisE.2, hbf i hi']; rfl
    · subst hi'
      exact .inl (.inl (.inl hisE.1))
    · refine .inr ?_
      have := stepP (i - (pre.length + 1)) (by omega)
      rw [show pre.length + 1 + (i - (pre.length + 1)) = i by omega] at this
      rw [this]
      exact hrH _
  have tree1 : atree E call ops (Region.before ops) L tm H' (ops.size + 1) [pre.length] H = true := by
    unfold atree
    simp only [Bool.and_eq_true, List.all_eq_true, Bool.or_eq_true]
    refine ⟨⟨fun i hi => ?_, fun e he => ?_⟩, .inl rfl⟩
    · rw [List.mem_range, hsz] at hi
      rcases Nat.lt_trichotomy i pre.length with hi' | hi' | hi'
      · refine .inr ?_
        rw [step i hi']
        exact hrH _
      · subst hi'
        exact .inl (.inl (.inl hisE.1))
      · refine .inl (.inl (.inr ?_))
        rw [List.any_eq_true]
        exact ⟨pre.length, by simp, hbp i hi' (by omega)⟩
    · have : e = pre.length := by simpa using he
      subst this
      refine .inr ?_
      rw [stepE]
      have : [pre.length].erase pre.length = [] := by simp
      simp only [this, hsz]
      rw [show pre.length + 1 + post.length = (pre.length + post.length) + 1 by omega]
      exact tree2 _
  have hEnd : endTm ops.toList L tm = endTm post l2 (putA (endTm pre l1 tm) o.dst x) := by
    unfold endTm
    rw [hops, hzip, List.foldl_append]; rfl
  unfold adraw
  rw [if_pos hd, hops, hc]
  simp only [recall_is G hes, heff, tree1, ← hops, hEnd]
  have : (L.length == ops.size) = true := by rw [hlen, hsz]; simp; omega
  simp [this]

/-- One operation by a function: what it gives, and the heap behind it. -/
def runOne (E : Env) (call : CallFn) (ops : Array Oper) (o : Oper) (tm : List AV) (H : Heap) : Option (AV × Heap) :=
  if awanted ops tm o = some true then match aop E (aval E tm) o H with
    | some (.val x, H') => some (x, H')
    | some (.skip, H') => some (.v undef, H')
    | some (.enter g args, H1) => match call g args H1 with
      | some (.ret x, H') => some (x, H')
      | _ => none
    | _ => none
  else none
theorem runOne_is {o : Oper} {tm : List AV} {H H' : Heap} {x : AV} (h : runOne E call ops o tm H = some (x, H')) : lastIs E call ops o tm H x H' := by
  unfold runOne at h
  split at h
  · rename_i hw
    split at h
    · rename_i y K ha
      cases h
      exact ⟨hw, .inl ha⟩
    · rename_i K ha
      cases h
      exact ⟨hw, .inr (.inl ⟨ha, rfl⟩)⟩
    · rename_i g args H1 ha
      split at h
      · rename_i y K hc
        cases h
        exact ⟨hw, .inr (.inr ⟨g, args, H1, ha, hc⟩)⟩
      · cases h
    · cases h
  · cases h

/-- The static side of a region whose order is drawn: operation k alone turns the heap. -/
structure DrawMid (E : Env) (ops : Array Oper) (k m : Nat) : Prop where
  split : ops.toList = ops.toList.take k ++ (ops.toList.getD k default) :: ops.toList.drop (k + 1)
  ok : drawOk ops = true
  slots : (ops.toList.all fun q => (slotsOf ops q).all fun t => decide (t < m)) = true
  eff : effs E.P ops = [(ops.toList.take k).length]
  bf : ((List.range (ops.toList.take k).length).all fun i => ((Region.before ops).getD (ops.toList.take k).length 0).testBit i) = true
  bp : ((List.range ops.size).all fun i => decide (i ≤ (ops.toList.take k).length) || ((Region.before ops).getD i 0).testBit (ops.toList.take k).length) = true

theorem slots_lt {ops : Array Oper} {m : Nat} (h : (ops.toList.all fun q => (slotsOf ops q).all fun t => decide (t < m)) = true) {tm : List AV} (hm : tm.length = m) : ∀ (i : Nat) o, ops[i]? = some o → ∀ t ∈ slotsOf ops o, t < tm.length := by
  intro i o ho t ht
  rw [List.all_eq_true] at h
  have hm2 : o ∈ ops.toList := by
    rw [← Array.getElem?_toList] at ho
    exact List.mem_of_getElem? ho
  have := h o hm2
  rw [List.all_eq_true] at this
  have := this t ht
  rw [hm]; simpa using this

theorem adraw_runMid (G : E.Good) {H H' : Heap} {tm tm1 tm2 : List AV} {df : List (Fn × List AV × List AV)} {l1 l2 : List (Bool × AV)} {x : AV} {k m : Nat} (D : DrawMid E ops k m) (hm : tm.length = m)
    (hr : ∀ y, E.same y y = true) (hrH : ∀ K, E.sameH K K = true)
    (h1 : runK E call ops H (ops.toList.take k) tm = some (tm1, l1)) (ho : runOne E call ops (ops.toList.getD k default) tm1 H = some (x, H')) (h2 : runK E call ops H' (ops.toList.drop (k + 1)) (putA tm1 (ops.toList.getD k default).dst x) = some (tm2, l2)) :
    adraw E call ops ⟨tm, df, H⟩ = some (.normal, ⟨tm2, df, H'⟩) := by
  obtain ⟨c1, rfl⟩ := runK_const h1
  obtain ⟨c2, rfl⟩ := runK_const h2
  refine adraw_mid G D.split D.ok (slots_lt D.slots hm) D.eff (fun i hi => ?_) (fun i hi hi2 => ?_) c1 (runOne_is ho) c2 hr hrH
  · exact List.all_eq_true.1 D.bf i (List.mem_range.2 hi)
  · have := List.all_eq_true.1 D.bp i (List.mem_range.2 hi2)
    simp only [Bool.or_eq_true, decide_eq_true_eq] at this
    rcases this with h | h
    · omega
    · exact h

/-- And of one of which no operation turns the heap. -/
structure DrawConst (ops : Array Oper) (m : Nat) : Prop where
  ok : drawOk ops = true
  slots : (ops.toList.all fun q => (slotsOf ops q).all fun t => decide (t < m)) = true
theorem adraw_constK (G : E.Good) {H : Heap} {tm tm1 : List AV} {df : List (Fn × List AV × List AV)} {l : List (Bool × AV)} {m : Nat} (D : DrawConst ops m) (hm : tm.length = m)
    (hr : ∀ y, E.same y y = true) (hrH : ∀ K, E.sameH K K = true) (h : runK E call ops H ops.toList tm = some (tm1, l)) :
    adraw E call ops ⟨tm, df, H⟩ = some (.normal, ⟨tm1, df, H⟩) := adraw_runK G D.ok (slots_lt D.slots hm) hr hrH h

/-! ### The same, with what is still to come -/
section
variable {R : Type}
open Classical in
/-- d: what it comes to where an operation turns the heap, or stands still. -/
noncomputable def kops (E : Env) (call : CallFn) (ops : Array Oper) (d : R) (H : Heap) : List Oper → List AV → (List AV → R) → R
  | [], tm, k => k tm
  | o :: r, tm, k => match awanted ops tm o with
    | none => d
    | some false => kops E call ops d H r (putA tm o.dst (.v undef)) k
    | some true => match aop E (aval E tm) o H with
      | some (.val x, H') => if H' = H then kops E call ops d H r (putA tm o.dst x) k else d
      | some (.skip, H') => if H' = H then kops E call ops d H r (putA tm o.dst (.v undef)) k else d
      | some (.enter g args, H') => if H' = H then match call g args H with
          | some (.ret x, H2) => if H2 = H then kops E call ops d H r (putA tm o.dst x) k else d
          | _ => d
        else d
      | _ => d
def kone (E : Env) (call : CallFn) (ops : Array Oper) (d : R) (o : Oper) (tm : List AV) (H : Heap) (k : AV → Heap → R) : R := match runOne E call ops o tm H with
  | some (x, H') => k x H'
  | none => d

theorem kops_runK {d : R} {H : Heap} : ∀ {os : List Oper} {tm : List AV} {k : List AV → R}, kops E call ops d H os tm k = match runK E call ops H os tm with
    | some (tm', _) => k tm'
    | none => d
  | [], tm, k => rfl
  | o :: r, tm, k => by
    unfold kops runK
    cases awanted ops tm o with
    | none => rfl
    | some b =>
      cases b with
      | false =>
        simp only
        rw [kops_runK]
        cases runK E call ops H r (putA tm o.dst (.v undef)) <;> rfl
      | true =>
        simp only
        cases aop E (aval E tm) o H with
        | none => rfl
        | some p =>
          obtain ⟨a, H'⟩ := p
          cases a with
          | val x =>
            simp only
            split
            · rw [kops_runK]; cases runK E call ops H r (putA tm o.dst x) <;> rfl
            · rfl
          | skip =>
            simp only
            split
            · rw [kops_runK]; cases runK E call ops H r (putA tm o.dst (.v undef)) <;> rfl
            · rfl
          | enter g args =>
            simp only
            split
            · cases hc : call g args H with
              | none => rfl
              | some p =>
                obtain ⟨e, H2⟩ := p
                cases e with
                | ret x =>
                  simp only
                  split
                  · rw [kops_runK]; cases runK E call ops H r (putA tm o.dst x) <;> rfl
                  · rfl
                | pan x => rfl
            · rfl
          | _ => rfl

theorem draw_mid (G : E.Good) (hr : ∀ y, E.same y y = true) (hrH : ∀ K, E.sameH K K = true) {k m : Nat} (D : DrawMid E ops k m) {tm : List AV} {df : List (Fn × List AV × List AV)} {H : Heap} (hm : tm.length = m) (c : Option (AExit × St) → R) :
    c (adraw E call ops ⟨tm, df, H⟩) = kops E call ops (c (adraw E call ops ⟨tm, df, H⟩)) H (ops.toList.take k) tm fun tm1 =>
      kone E call ops (c (adraw E call ops ⟨tm, df, H⟩)) (ops.toList.getD k default) tm1 H fun x H' =>
        kops E call ops (c (adraw E call ops ⟨tm, df, H⟩)) H' (ops.toList.drop (k + 1)) (putA tm1 (ops.toList.getD k default).dst x) fun tm2 => c (some (.normal, ⟨tm2, df, H'⟩)) := by
  rw [kops_runK]
  cases h1 : runK E call ops H (ops.toList.take k) tm with
  | none => rfl
  | some p =>
    obtain ⟨tm1, l1⟩ := p
    simp only [kone]
    cases ho : runOne E call ops (ops.toList.getD k default) tm1 H with
    | none => rfl
    | some p =>
      obtain ⟨x, H'⟩ := p
      simp only
      rw [kops_runK]
      cases h2 : runK E call ops H' (ops.toList.drop (k + 1)) (putA tm1 (ops.toList.getD k default).dst x) with
      | none => rfl
      | some p =>
        obtain ⟨tm2, l2⟩ := p
        simp only
        rw [adraw_runMid G D hm hr hrH h1 ho h2]

theorem draw_const (G : E.Good) (hr : ∀ y, E.same y y = true) (hrH : ∀ K, E.sameH K K = true) {m : Nat} (D : DrawConst ops m) {tm : List AV} {df : List (Fn × List AV × List AV)} {H : Heap} (hm : tm.length = m) (c : Option (AExit × St) → R) :
    c (adraw E call ops ⟨tm, df, H⟩) = kops E call ops (c (adraw E call ops ⟨tm, df, H⟩)) H ops.toList tm fun tm1 => c (some (.normal, ⟨tm1, df, H⟩)) := by
  rw [kops_runK]
  cases h1 : runK E call ops H ops.toList tm with
  | none => rfl
  | some p =>
    obtain ⟨tm1, l1⟩ := p
    simp only
    rw [adraw_constK G D hm hr hrH h1]
end
end

/-- A region of a code, by its number. -/
def reg (id : Nat) : Code → Option (Array Oper)
  | .region i ops _ => if i = id then some ops else none
  | .seq a b => (reg id a).or (reg id b)
  | .cond _ a b => (reg id a).or (reg id b)
  | .block _ b => reg id b
  | .loop b => reg id b
  | _ => none
end Go.AI
end

/- A part of the proof: JxOpen, JxTab, JxRow. -/
import Derived.Test.YthlogeaejcaggaaGreatDoorRows
import Derived.Lib.LaidTab
import Derived.Test.YthlogeaejcaggaaGreatDoorCards
import Derived.Test.YthlogeaejcaggaaGreatDoorTie
import Derived.Deep.DeepHandedRow
import Derived.Deep.DeepWitnessRowRef
import Derived.Test.YthlogeaejcaggaaGreatDoorX1
import Derived.Test.YthlogeaejcaggaaGreatDoorA3
set_option linter.all false
section
set_option linter.all false
namespace Go.AI.Jx
open Go Go.Proofs Go.Proofs.YthlogeaejcaggaaGreatDoor Go.ChangeShapes Go.WideShapes

theorem cells29 : Tryz.prog.cellsOf 29 = 9 := by kernel_rfl
theorem cells24 : Tryz.prog.cellsOf 24 = 3 := by kernel_rfl
theorem cells22 : Tryz.prog.cellsOf 22 = 1 := by kernel_rfl
theorem cells4 : Tryz.prog.cellsOf 4 = 1 := by kernel_rfl
theorem cells25 : Tryz.prog.cellsOf 25 = 1 := by kernel_rfl
theorem cells9 : Tryz.prog.cellsOf 9 = 1 := by kernel_rfl
theorem cells26 : Tryz.prog.cellsOf 26 = 1 := by kernel_rfl
theorem cells27 : Tryz.prog.cellsOf 27 = 1 := by kernel_rfl
theorem cells3 : Tryz.prog.cellsOf 3 = 1 := by kernel_rfl

mutual
def VT.wf : VT → Prop
  | .mk k _ _ _ e b _ _ l => (-9223372036854775808 ≤ k ∧ k ≤ 9223372036854775807) ∧ (-9223372036854775808 ≤ e ∧ e ≤ 9223372036854775807) ∧ (0 ≤ b ∧ b ≤ 18446744073709551615) ∧ VT.wfL l
def VT.wfL : List VT → Prop
  | [] => True
  | v :: vs => VT.wf v ∧ VT.wfL vs
end

theorem encL_append : ∀ (l r : List VT), VT.encL (l ++ r) = VT.encL l ++ VT.encL r
  | [], r => rfl
  | v :: vs, r => by simp [VT.encL, encL_append vs r]
theorem needL_append : ∀ (l r : List VT), VT.needL (l ++ r) = VT.needL l + VT.needL r
  | [], r => by simp [VT.needL]
  | v :: vs, r => by simp [VT.needL, needL_append vs r]; omega
theorem wfL_append : ∀ (l r : List VT), VT.wfL (l ++ r) ↔ VT.wfL l ∧ VT.wfL r
  | [], r => by simp [VT.wfL]
  | v :: vs, r => by simp [VT.wfL, wfL_append vs r, and_assoc]

theorem mapM_some {α β : Type} {f : α → Option β} : ∀ {l : List α} {r : List β}, l.mapM f = some r → r.length = l.length ∧ ∀ (i : Nat) (a : α), l[i]? = some a → f a = r[i]?
  | [], r, h => by
    simp at h
    subst h
    exact ⟨rfl, fun i a e => by simp at e⟩
  | x :: l, r, h => by
    simp only [List.mapM_cons, Option.bind_eq_bind, Option.bind_eq_some_iff, Option.pure_def, Option.some.injEq] at h
    obtain ⟨b, hb, r', hr', rfl⟩ := h
    obtain ⟨h1, h2⟩ := mapM_some hr'
    refine ⟨by simp [h1], fun i a e => ?_⟩
    cases i with
    | zero => simp only [List.getElem?_cons_zero, Option.some.injEq] at e; subst e; simpa using hb
    | succ i => simpa using h2 i a (by simpa using e)

section
variable {H : Type} {enc : TypeId × Value → H} {W : World} {spare : Nat → Bool} {held : Bool}

theorem cells_get {base : Nat} {a : Addr} {n : Nat} {cs : List Value} (h : W.cells? base a n = some cs) : cs.length = n ∧ ∀ i, i < n → W.cell? (a.add i) = cs[i]? := by
  unfold World.cells? at h
  split at h
  · obtain ⟨h1, h2⟩ := mapM_some h
    refine ⟨by simpa using h1, fun i hi => ?_⟩
    exact h2 i i (by simp [hi])
  · cases h

theorem cell_spot {a : Addr} {u : Value} (h : W.cell? a = some u) : a = ⟨a.block, a.off, none⟩ := by
  unfold World.cell? at h
  split at h
  · split at h
    · cases h
    · rename_i hs
      obtain ⟨b, o, s⟩ := a
      cases s with
      | none => rfl
      | some s => simp at hs
  · cases h

theorem add_add (a : Addr) (i k : Nat) (hs : a.spot = none) : (a.add i).add k = ⟨a.block, a.off + (i + k), none⟩ := by
  obtain ⟨b, o, s⟩ := a
  simp only at hs
  subst hs
  unfold Addr.add
  by_cases h1 : i = 0 <;> by_cases h2 : k = 0 <;> simp [h1, h2] <;> omega

/-- What a slice's elements' cells come to, element by element. -/
theorem slice_cells {sz : Nat} {a : Addr} {len : Nat} {css : Nat → List Value} (hsz : 0 < sz) (h : ∀ i, i < len → W.cells? 0 (a.add (i * sz)) sz = some (css i)) :
    (0 < len → a = ⟨a.block, a.off, none⟩) ∧ ∀ i, i < len → (css i).length = sz ∧ ∀ k u, (css i)[k]? = some u → W.cell? ⟨a.block, a.off + (i * sz + k), none⟩ = some u := by
  have h0 : 0 < len → a = ⟨a.block, a.off, none⟩ := fun hl => by
    obtain ⟨h1, h2⟩ := cells_get (h 0 hl)
    have := h2 0 hsz
    have ha : (a.add (0 * sz)).add 0 = a := by simp [Addr.add]
    rw [ha] at this
    exact cell_spot (this.trans (List.getElem?_eq_getElem (by omega)))
  refine ⟨h0, fun i hi => ?_⟩
  obtain ⟨h1, h2⟩ := cells_get (h i hi)
  refine ⟨h1, fun k u hk => ?_⟩
  have hk' : k < sz := by rw [← h1]; exact (List.getElem?_eq_some_iff.1 hk).1
  have := h2 k hk'
  rw [add_add a _ _ (by rw [h0 (by omega)])] at this
  rw [this, hk]

abbrev bulk (d : DataW H) : Nat := Go.Proofs.YthlogeaejcaggaaGreatDoor.Rows.uptoBulk d
abbrev bulkAll (d : List (DataW H)) : Nat := Go.Proofs.YthlogeaejcaggaaGreatDoor.Rows.uptoBulkAll d

theorem bulkAll_take (l : List (DataW H)) (n : Nat) (h : n < l.length) : bulkAll (l.take (n + 1)) = bulkAll (l.take n) + bulk l[n] := by
  induction l generalizing n with
  | nil => simp at h
  | cons x r ih =>
    cases n with
    | zero => simp [bulkAll, bulk, Rows.uptoBulkAll]
    | succ n =>
      have := ih n (by simpa using h)
      simp only [List.take_succ_cons, List.getElem_cons_succ]
      simp only [bulkAll, bulk, Rows.uptoBulkAll] at this ⊢
      omega

theorem relL_snoc {g : Ghost} {xs ys : List AV} {us ws : List Value} (h : RelL g xs us) (k : RelL g ys ws) : RelL g (xs ++ ys) (us ++ ws) := h.append k

/-- A []string's cells. -/
theorem open_names {fuel : Nat} {c : Value} {x : DataW H × List MemPlace} (h : DataW.trod enc Tryz.prog W 0 spare held fuel 26 [c] = some x) :
    ∃ ns : List ByteArray, Rel (ghost0 W) (.sl ns.length (namesA ns)) c ∧ ns.length + (ns.map ByteArray.size).sum + 1 ≤ bulk x.1 := by
  rcases DataW.trod_slice Tryz.underlying26 h with ⟨hc, rfl⟩ | ⟨a, len, cap, elems, rest, n, rfl, hc, rfl, _, hl, _, hlen, hel, _, _⟩
  · cases hc
    refine ⟨[], .sl (a := none) (b := 0) (o := 0) (us := []) (Nat.le_refl _) rfl (fun i x u e => by simp [namesA] at e) (fun h => by simp [namesA] at h) (fun i u e => by simp at e), ?_⟩
    simp [bulk, Rows.uptoBulk]
  · cases hc
    rw [cells9] at hel
    have each : ∀ m, m ≤ len → ∃ ns : List ByteArray, ns.length = m ∧ (∀ i s, ns[i]? = some s → W.cell? ⟨a.block, a.off + i, none⟩ = some (.string s)) ∧ (0 < m → a = ⟨a.block, a.off, none⟩) ∧ ns.length + (ns.map ByteArray.size).sum ≤ bulkAll ((elems.map (·.1)).take m) := by
      intro m
      induction m with
      | zero => intro _; exact ⟨[], rfl, fun i s e => by simp at e, fun h => by omega, by simp⟩
      | succ m ih =>
        intro hm
        obtain ⟨ns, h1, h2, h3, h4⟩ := ih (by omega)
        have he := hel m (by omega)
        have hme : m < elems.length := by omega
        rw [List.getElem?_eq_getElem hme] at he
        obtain ⟨cs, hcs, ht⟩ := Option.bind_eq_some_iff.1 he
        obtain ⟨s, rfl, hx, hs⟩ := DataW.trod_string Tryz.underlying9 ht
        obtain ⟨k1, k2⟩ := cells_get hcs
        have hcell := k2 0 (by omega)
        have hsp : a = ⟨a.block, a.off, none⟩ := by
          have hsp := cell_spot (hcell.trans rfl)
          have hadd : ∀ (a : Addr) (j : Nat), (a.add j).spot = none → j = 0 → a.spot = none := by
            intro a j h hj; subst hj; simpa [Addr.add] using h
          rcases Nat.eq_zero_or_pos m with h0 | h0
          · subst h0
            obtain ⟨b, o, s⟩ := a
            have : s = none := by
              have := congrArg Addr.spot hsp
              simpa [Addr.add] using this
            subst this; rfl
          · exact h3 h0
        rw [add_add a _ _ (by rw [hsp])] at hcell
        refine ⟨ns ++ [s], by simp [h1], fun i t hit => ?_, fun _ => hsp, ?_⟩
        · rcases Nat.lt_or_ge i m with hi | hi
          · rw [List.getElem?_append_left (by omega)] at hit
            exact h2 i t hit
          · have hi' : i = m := by
              have := (List.getElem?_eq_some_iff.1 hit).1
              simp [h1] at this; omega
            subst hi'
            rw [List.getElem?_append_right (by omega)] at hit
            simp [h1] at hit
            subst hit
            simpa using hcell
        · have hl2 : m < (elems.map (·.1)).length := by simpa using hme
          rw [bulkAll_take _ _ hl2]
          have : bulk (elems.map (·.1))[m] = s.size + 1 := by
            simp only [List.getElem_map, hx, bulk, Rows.uptoBulk]
            simp
          rw [this]
          simp
          omega
    obtain ⟨ns, h1, h2, h3, h4⟩ := each len (Nat.le_refl _)
    refine ⟨ns, ?_, ?_⟩
    · rw [h1]
      refine .sl (us := ns.map .string) (b := a.block) (o := a.off) hl (by simp [namesA]) (fun i x u e1 e2 => ?_) (fun hne => ?_) (fun i u e => ?_)
      · simp only [namesA, List.getElem?_map] at e1 e2
        cases hi : ns[i]? with
        | none => rw [hi] at e1; simp at e1
        | some s =>
          rw [hi] at e1 e2
          simp only [Option.map_some, Option.some.injEq] at e1 e2
          subst e1; subst e2
          exact .v _
      · have : 0 < len := by
          rcases Nat.eq_zero_or_pos len with h0 | h0
          · exfalso; apply hne
            have : ns = [] := List.eq_nil_of_length_eq_zero (by omega)
            subst this; rfl
          · exact h0
        rw [h3 this]
      · rw [List.getElem?_map] at e
        cases hi : ns[i]? with
        | none => rw [hi] at e; simp at e
        | some s =>
          rw [hi] at e
          simp only [Option.map_some, Option.some.injEq] at e
          subst e
          exact h2 i s hi
    · have hb : bulk (DataW.slice (elems.map (·.1)) (rest.map (·.1))) = bulkAll (elems.map (·.1)) + bulkAll (rest.map (·.1)) + 1 := by simp [bulk, bulkAll, Rows.uptoBulk]
      rw [hb]
      have : (elems.map (·.1)).take len = elems.map (·.1) := List.take_of_length_le (by simp [hlen])
      rw [this] at h4
      omega

theorem wf_i64 {n : Int} (h : (Lit.int .i64 n).wf = true) : -9223372036854775808 ≤ n ∧ n ≤ 9223372036854775807 := by
  simpa [Lit.wf, IntKind.min, IntKind.max, IntKind.signed, IntKind.bits] using h
theorem wf_u64 {n : Int} (h : (Lit.int .u64 n).wf = true) : 0 ≤ n ∧ n ≤ 18446744073709551615 := by
  simpa [Lit.wf, IntKind.min, IntKind.max, IntKind.signed, IntKind.bits] using h

theorem list9 {α : Type} {l : List α} (h : l.length = 9) : ∃ a b c d e f g i j, l = [a, b, c, d, e, f, g, i, j] := by
  match l, h with
  | [a, b, c, d, e, f, g, i, j], _ => exact ⟨a, b, c, d, e, f, g, i, j, rfl⟩
theorem list7 {α : Type} {l : List α} (h : l.length = 7) : ∃ a b c d e f g, l = [a, b, c, d, e, f, g] := by
  match l, h with
  | [a, b, c, d, e, f, g], _ => exact ⟨a, b, c, d, e, f, g, rfl⟩
theorem list3 {α : Type} {l : List α} (h : l.length = 3) : ∃ a b c, l = [a, b, c] := by
  match l, h with
  | [a, b, c], _ => exact ⟨a, b, c, rfl⟩
/-- A value's cells. -/
theorem open_v : ∀ (fuel : Nat) {cs : List Value} {x : DataW H × List MemPlace}, DataW.trod enc Tryz.prog W 0 spare held fuel 29 cs = some x →
    ∃ v : VT, RelL (ghost0 W) v.enc cs ∧ v.need + 1 ≤ bulk x.1 ∧ v.wf := by
  intro fuel
  induction fuel using Nat.strongRecOn with
  | _ fuel ih =>
    intro cs x h
    obtain ⟨xs, n, rfl, rfl, hcl, hxl, hf⟩ := DataW.trod_struct Tryz.underlying29 h
    rw [cells29] at hcl
    have hxl : xs.length = 7 := hxl
    obtain ⟨c0, c1, c2, c3, c4, c5, c6, c7, c8, rfl⟩ := list9 hcl
    obtain ⟨y0, y1, y2, y3, y4, y5, y6, rfl⟩ := list7 hxl
    clear hcl hxl
    have f0 : DataW.trod enc Tryz.prog W 0 spare held n 22 [c0] = some y0 := by
      have f := hf 0 { name := "Kind", type := 22, offset := 0, embedded := false, tag := "", pkgPath := "", byteOffset := 0 } rfl
      dsimp only at f
      rw [cells22] at f
      exact f
    have f1 : DataW.trod enc Tryz.prog W 0 spare held n 4 [c1] = some y1 := by
      have f := hf 1 { name := "Flag", type := 4, offset := 1, embedded := false, tag := "", pkgPath := "", byteOffset := 8 } rfl
      dsimp only at f
      rw [cells4] at f
      exact f
    have f2 : DataW.trod enc Tryz.prog W 0 spare held n 24 [c2, c3, c4] = some y2 := by
      have f := hf 2 { name := "Num", type := 24, offset := 2, embedded := false, tag := "", pkgPath := "", byteOffset := 16 } rfl
      dsimp only at f
      rw [cells24] at f
      exact f
    have f3 : DataW.trod enc Tryz.prog W 0 spare held n 25 [c5] = some y3 := by
      have f := hf 3 { name := "Bits", type := 25, offset := 5, embedded := false, tag := "", pkgPath := "", byteOffset := 48 } rfl
      dsimp only at f
      rw [cells25] at f
      exact f
    have f4 : DataW.trod enc Tryz.prog W 0 spare held n 9 [c6] = some y4 := by
      have f := hf 4 { name := "Text", type := 9, offset := 6, embedded := false, tag := "", pkgPath := "", byteOffset := 56 } rfl
      dsimp only at f
      rw [cells9] at f
      exact f
    have f5 : DataW.trod enc Tryz.prog W 0 spare held n 26 [c7] = some y5 := by
      have f := hf 5 { name := "Names", type := 26, offset := 7, embedded := false, tag := "", pkgPath := "", byteOffset := 72 } rfl
      dsimp only at f
      rw [cells26] at f
      exact f
    have f6 : DataW.trod enc Tryz.prog W 0 spare held n 27 [c8] = some y6 := by
      have f := hf 6 { name := "List", type := 27, offset := 8, embedded := false, tag := "", pkgPath := "", byteOffset := 96 } rfl
      dsimp only at f
      rw [cells27] at f
      exact f
    obtain ⟨k, hk, hx0, wk⟩ := DataW.trod_int Tryz.underlying22 f0
    obtain ⟨fl, hfl, hx1⟩ := DataW.trod_bool Tryz.underlying4 f1
    obtain ⟨zs, m, rfl, hx2, hzc, hzl, hz⟩ := DataW.trod_struct Tryz.underlying24 f2
    have hzl : zs.length = 3 := hzl
    obtain ⟨z0, z1, z2, rfl⟩ := list3 hzl
    have g0 : DataW.trod enc Tryz.prog W 0 spare held m 4 [c2] = some z0 := by
      have f := hz 0 { name := "Neg", type := 4, offset := 0, embedded := false, tag := "", pkgPath := "", byteOffset := 0 } rfl
      dsimp only at f
      rw [cells4] at f
      exact f
    have g1 : DataW.trod enc Tryz.prog W 0 spare held m 9 [c3] = some z1 := by
      have f := hz 1 { name := "Digits", type := 9, offset := 1, embedded := false, tag := "", pkgPath := "", byteOffset := 8 } rfl
      dsimp only at f
      rw [cells9] at f
      exact f
    have g2 : DataW.trod enc Tryz.prog W 0 spare held m 3 [c4] = some z2 := by
      have f := hz 2 { name := "Exp", type := 3, offset := 2, embedded := false, tag := "", pkgPath := "", byteOffset := 24 } rfl
      dsimp only at f
      rw [cells3] at f
      exact f
    obtain ⟨ng, hng, hy0⟩ := DataW.trod_bool Tryz.underlying4 g0
    obtain ⟨dg, hdg, hy1, _⟩ := DataW.trod_string Tryz.underlying9 g1
    obtain ⟨ex, hex, hy2, we⟩ := DataW.trod_int Tryz.underlying3 g2
    obtain ⟨bi, hbi, hx3, wb⟩ := DataW.trod_int Tryz.underlying25 f3
    obtain ⟨te, hte, hx4, _⟩ := DataW.trod_string Tryz.underlying9 f4
    obtain ⟨ns, rns, bns⟩ := open_names f5
    have lst : ∃ l : List VT, Rel (ghost0 W) (.sl l.length (VT.encL l)) c8 ∧ VT.needL l + l.length + 1 ≤ bulk y6.1 ∧ VT.wfL l := by
      rcases DataW.trod_slice Tryz.underlying27 f6 with ⟨hc, rfl⟩ | ⟨a, len, cap, elems, rest, n2, hn2, hc, rfl, _, hl, _, hlen, hel, _, _⟩
      · cases hc
        refine ⟨[], .sl (a := none) (b := 0) (o := 0) (us := []) (Nat.le_refl _) rfl (fun i x u e => by simp [VT.encL] at e) (fun h => by simp [VT.encL] at h) (fun i u e => by simp at e), ?_, trivial⟩
        simp [bulk, Rows.uptoBulk, VT.needL]
      · cases hc
        rw [cells29] at hel
        have each : ∀ q, q ≤ len → ∃ (l : List VT) (us : List Value), l.length = q ∧ RelL (ghost0 W) (VT.encL l) us ∧ (∀ i u, us[i]? = some u → W.cell? ⟨a.block, a.off + i, none⟩ = some u) ∧ (0 < q → a = ⟨a.block, a.off, none⟩) ∧
            VT.needL l + l.length ≤ bulkAll ((elems.map (·.1)).take q) ∧ VT.wfL l := by
          intro q
          induction q with
          | zero => intro _; exact ⟨[], [], rfl, .nil _, fun i s e => by simp at e, fun h => by omega, by simp [VT.needL], trivial⟩
          | succ q ihq =>
            intro hq
            obtain ⟨l, us, h1, h2, h3, h4, h5, h6⟩ := ihq (by omega)
            have he := hel q (by omega)
            have hqe : q < elems.length := by omega
            rw [List.getElem?_eq_getElem hqe] at he
            obtain ⟨cs, hcs, ht⟩ := Option.bind_eq_some_iff.1 he
            obtain ⟨v, rv, bv, wv⟩ := ih n2 (by omega) ht
            obtain ⟨k1, k2⟩ := cells_get hcs
            have hsp : a = ⟨a.block, a.off, none⟩ := by
              rcases Nat.eq_zero_or_pos q with h0 | h0
              · subst h0
                have := k2 0 (by omega)
                have ha : (a.add (0 * 9)).add 0 = a := by simp [Addr.add]
                rw [ha, List.getElem?_eq_getElem (by omega)] at this
                exact cell_spot this
              · exact h4 h0
            have hul : us.length = q * 9 := by rw [← h2.1, encL_length, h1]
            refine ⟨l ++ [v], us ++ cs, by simp [h1], ?_, fun i u hu => ?_, fun _ => hsp, ?_, ?_⟩
            · rw [encL_append]
              refine h2.append ?_
              simpa [VT.encL] using rv
            · rcases Nat.lt_or_ge i us.length with hi | hi
              · rw [List.getElem?_append_left hi] at hu
                exact h3 i u hu
              · rw [List.getElem?_append_right hi] at hu
                have hlt := (List.getElem?_eq_some_iff.1 hu).1
                have := k2 (i - us.length) (by omega)
                rw [add_add a _ _ (by rw [hsp]), hu] at this
                have e : a.off + (q * 9 + (i - us.length)) = a.off + i := by omega
                rw [e] at this
                exact this
            · have hl2 : q < (elems.map (·.1)).length := by simpa using hqe
              rw [bulkAll_take _ _ hl2, needL_append]
              have : bulk (elems.map (·.1))[q] = bulk elems[q].1 := by simp
              rw [this]
              simp [VT.needL]
              omega
            · rw [wfL_append]
              exact ⟨h6, wv, trivial⟩
        obtain ⟨l, us, h1, h2, h3, h4, h5, h6⟩ := each len (Nat.le_refl _)
        refine ⟨l, ?_, ?_, h6⟩
        · rw [h1]
          refine .sl (us := us) (b := a.block) (o := a.off) hl h2.1 h2.2 (fun hne => ?_) (fun i u e => h3 i u e)
          have : 0 < len := by
            rcases Nat.eq_zero_or_pos len with h0 | h0
            · exfalso; apply hne
              have : l = [] := List.eq_nil_of_length_eq_zero (by omega)
              subst this; rfl
            · exact h0
          rw [h4 this]
        · have hb : bulk (DataW.slice (elems.map (·.1)) (rest.map (·.1))) = bulkAll (elems.map (·.1)) + bulkAll (rest.map (·.1)) + 1 := by simp [bulk, bulkAll, Rows.uptoBulk]
          rw [hb]
          have : (elems.map (·.1)).take len = elems.map (·.1) := List.take_of_length_le (by simp [hlen])
          rw [this] at h5
          omega
    obtain ⟨l, rl, bl, wl⟩ := lst
    simp only [List.cons.injEq, and_true] at hk hfl hng hdg hex hbi hte
    subst hk hfl hng hdg hex hbi hte
    refine ⟨.mk k fl ng dg ex bi te ns l, ?_, ?_, ?_⟩
    · exact .cons (.v _) (.cons (.v _) (.cons (.v _) (.cons (.v _) (.cons (.v _) (.cons (.v _) (.cons (.v _) (.cons rns (.cons rl (.nil _)))))))))
    · have e0 : bulk y0.1 = 1 := by rw [hx0]; simp [bulk, Rows.uptoBulk]
      have e1 : bulk y1.1 = 1 := by rw [hx1]; simp [bulk, Rows.uptoBulk]
      have e2 : bulk y2.1 = dg.size + 4 := by
        rw [hx2]
        simp only [List.map_cons, List.map_nil, bulk, Rows.uptoBulk, Rows.uptoBulkAll, hy0, hy1, hy2]
        simp; omega
      have e3 : bulk y3.1 = 1 := by rw [hx3]; simp [bulk, Rows.uptoBulk]
      have e4 : bulk y4.1 = te.size + 1 := by rw [hx4]; simp [bulk, Rows.uptoBulk]
      simp only [List.map_cons, List.map_nil]
      simp only [bulk, Rows.uptoBulk, Rows.uptoBulkAll] at e0 e1 e2 e3 e4 bns bl ⊢
      simp only [VT.need]
      omega
    · exact ⟨wf_i64 wk, wf_i64 we, wf_u64 wb, wl⟩
end
end Go.AI.Jx
end
section
set_option linter.all false
set_option maxRecDepth 100000
namespace Go.AI.Jx
open Go Go.Proofs Go.Proofs.YthlogeaejcaggaaGreatDoor Go.ChangeShapes Go.WideShapes

theorem var_of_laid {P : Program} {w : World} : ∀ {L : List (String × DataW Unit)} {ps : List MemPlace}, DataW.LaidVars P w L ps → ∀ n d, (n, d) ∈ L →
    ∃ g t cs fuel p, P.globalNamed n = some g ∧ (P.globals[g]?).map (·.type) = some t ∧ w.var? P n = some cs ∧ DataW.trod (fun _ => ()) P w 0 (fun _ => true) false fuel t cs.toList = some (d, p)
  | [], ps, h, n, d, hm => by simp at hm
  | (m, e) :: r, ps, h, n, d, hm => by
    obtain ⟨g, t, cs, fuel, p, q, h1, h2, h3, h4, h5, _⟩ := h
    rcases List.mem_cons.1 hm with he | he
    · cases he
      exact ⟨g, t, cs, fuel, p, h1, h2, h3, h4⟩
    · exact var_of_laid h5 n d he

theorem tab_cells {P : Program} {W : World} {L : List (String × DataW Unit)} {ps : List MemPlace} (h : DataW.LaidVars P W L ps) {name : String} {k : IntKind} {zs : List Int} {g : Nat} {t e : TypeId} {n : Nat} (hm : (name, Lib.tabData k zs) ∈ L)
    (hg : P.globalNamed name = some g) (hty : (P.globals[g]?).map (·.type) = some t) (ht : P.underlying t = some (.array n e)) (he : P.underlying e = some (.int k)) (hce : P.cellsOf e = 1) (hct : P.cellsOf t = n)
    (i : Nat) (x : AV) (hx : (zs.map fun z => AV.v (.int k z))[i]? = some x) : ∃ u, W.cell? ⟨g, i, none⟩ = some u ∧ Rel (ghost0 W) x u := by
  obtain ⟨g', t', cs, fuel, p, h1, h2, h3, h4⟩ := var_of_laid h _ _ hm
  obtain rfl := Option.some.inj (hg.symm.trans h1)
  obtain rfl := Option.some.inj (hty.symm.trans h2)
  have hcs := Lib.cells_of_tab ht he hce hct h4
  have := World.var?_cell hg h3 i
  rw [List.getElem?_map] at hx
  obtain ⟨z, hz, rfl⟩ := Option.map_eq_some_iff.1 hx
  refine ⟨.int k z, ?_, .v _⟩
  rw [this, ← Array.getElem?_toList, hcs, List.getElem?_map, hz]; rfl

/-- acceptRanges: sixteen pairs. -/
def arZ : List (Int × Int) := [(128, 191), (160, 191), (128, 159), (144, 191), (128, 143), (0, 0), (0, 0), (0, 0), (0, 0), (0, 0), (0, 0), (0, 0), (0, 0), (0, 0), (0, 0), (0, 0)]
def arData : DataW Unit := .agg (arZ.map fun z => .agg [.lit (.int .u8 z.1), .lit (.int .u8 z.2)])

theorem pair_cells {P : Program} {W : World} {L : List (String × DataW Unit)} {ps : List MemPlace} (h : DataW.LaidVars P W L ps) {name : String} {zs : List (Int × Int)} {g : Nat} {t e a : TypeId} {n : Nat} {f0 f1 : Field}
    (hm : (name, (.agg (zs.map fun z => .agg [.lit (.int .u8 z.1), .lit (.int .u8 z.2)]) : DataW Unit)) ∈ L)
    (hg : P.globalNamed name = some g) (hty : (P.globals[g]?).map (·.type) = some t) (ht : P.underlying t = some (.array n e)) (he : P.underlying e = some (.struct #[f0, f1])) (ha0 : P.underlying f0.type = some (.int .u8)) (ha1 : P.underlying f1.type = some (.int .u8))
    (o0 : f0.offset = 0) (o1 : f1.offset = 1) (c0 : P.cellsOf f0.type = 1) (c1 : P.cellsOf f1.type = 1) (hce : P.cellsOf e = 2)
    (i : Nat) (x : AV) (hx : (zs.flatMap fun z => [AV.v (.int .u8 z.1), AV.v (.int .u8 z.2)])[i]? = some x) : ∃ u, W.cell? ⟨g, i, none⟩ = some u ∧ Rel (ghost0 W) x u := by
  obtain ⟨g', t', cs, fuel, p, h1, h2, h3, h4⟩ := var_of_laid h _ _ hm
  obtain rfl := Option.some.inj (hg.symm.trans h1)
  obtain rfl := Option.some.inj (hty.symm.trans h2)
  have hcell := World.var?_cell hg h3 i
  cases fuel with
  | zero => simp [DataW.trod] at h4
  | succ fuel =>
    simp only [DataW.trod, ht, hce] at h4
    split at h4
    · obtain ⟨xs, hmm, hxx⟩ := Option.map_eq_some_iff.1 h4
      obtain ⟨hl, hk⟩ := mapM_some hmm
      have hxs : xs.map (·.1) = zs.map fun z => (.agg [.lit (.int .u8 z.1), .lit (.int .u8 z.2)] : DataW Unit) := by
        have := congrArg Prod.fst hxx
        simpa using this
      have hxl : xs.length = n := by simpa using hl
      have hzl : zs.length = n := by
        have := congrArg List.length hxs
        simp at this
        omega
      have elem : ∀ j, j < n → ∃ z, zs[j]? = some z ∧ cs.toList[j * 2]? = some (.int .u8 z.1) ∧ cs.toList[j * 2 + 1]? = some (.int .u8 z.2) := by
        intro j hj
        have hj' : j < xs.length := by omega
        have hf := hk j j (by simp [hj])
        rw [List.getElem?_eq_getElem hj'] at hf
        obtain ⟨ys, m, rfl, hy, hyl, hyl2, hyf⟩ := DataW.trod_struct he hf
        have hyl2 : ys.length = 2 := hyl2
        match ys, hyl2 with
        | [y0, y1], _ =>
        have g0 := hyf 0 f0 rfl
        have g1 := hyf 1 f1 rfl
        rw [o0, c0] at g0
        rw [o1, c1] at g1
        simp only [List.getElem?_cons_zero, List.getElem?_cons_succ] at g0 g1
        obtain ⟨n0, hn0, hd0, _⟩ := DataW.trod_int ha0 g0
        obtain ⟨n1, hn1, hd1, _⟩ := DataW.trod_int ha1 g1
        have e2 : (xs.map (·.1))[j]? = some (.agg [.lit (.int .u8 n0), .lit (.int .u8 n1)]) := by
          rw [List.getElem?_map, List.getElem?_eq_getElem hj', hy]
          simp [hd0, hd1]
        rw [hxs, List.getElem?_map] at e2
        obtain ⟨z, hz, he2⟩ := Option.map_eq_some_iff.1 e2
        simp only [DataW.agg.injEq, List.cons.injEq, DataW.lit.injEq, Lit.int.injEq, true_and, and_true] at he2
        obtain ⟨rfl, rfl⟩ := he2
        refine ⟨z, hz, ?_, ?_⟩
        · have := congrArg (·[0]?) hn0
          simpa [List.getElem?_take, List.getElem?_drop] using this
        · have := congrArg (·[0]?) hn1
          simpa [List.getElem?_take, List.getElem?_drop] using this
      have hi : i < 2 * zs.length := by
        have := (List.getElem?_eq_some_iff.1 hx).1
        have hfl : ∀ zs : List (Int × Int), (zs.flatMap fun z => [AV.v (.int .u8 z.1), AV.v (.int .u8 z.2)]).length = 2 * zs.length := by
          intro zs
          induction zs with
          | nil => rfl
          | cons z r ih => simp only [List.flatMap_cons, List.length_append, ih, List.length_cons, List.length_nil]; omega
        rw [hfl] at this
        exact this
      have hget : ∀ (zs : List (Int × Int)) (j : Nat) (z : Int × Int), zs[j]? = some z → (zs.flatMap fun z => [AV.v (.int .u8 z.1), AV.v (.int .u8 z.2)])[j * 2]? = some (.v (.int .u8 z.1)) ∧ (zs.flatMap fun z => [AV.v (.int .u8 z.1), AV.v (.int .u8 z.2)])[j * 2 + 1]? = some (.v (.int .u8 z.2)) := by
        intro zs
        induction zs with
        | nil => intro j z h; simp at h
        | cons y r ih =>
          intro j z h
          cases j with
          | zero =>
            simp at h; subst h
            simp
          | succ j =>
            have := ih j z (by simpa using h)
            have e1 : (j + 1) * 2 = j * 2 + 2 := by omega
            have e3 : (j + 1) * 2 + 1 = (j * 2 + 1) + 2 := by omega
            rw [e3, e1]
            simpa using this
      obtain ⟨z, hz, k0, k1⟩ := elem (i / 2) (by omega)
      obtain ⟨q0, q1⟩ := hget zs _ _ hz
      rcases (by omega : i = i / 2 * 2 ∨ i = i / 2 * 2 + 1) with e1 | e1
      · rw [e1] at hx
        rw [q0] at hx
        cases hx
        refine ⟨_, ?_, .v _⟩
        rw [hcell, ← Array.getElem?_toList, e1]
        have : i / 2 * 2 / 2 * 2 = i / 2 * 2 := by omega
        simpa using k0
      · rw [e1] at hx
        rw [q1] at hx
        cases hx
        refine ⟨_, ?_, .v _⟩
        rw [hcell, ← Array.getElem?_toList, e1]
        simpa using k1
    · cases h4

def theLaid : List (String × DataW Unit) := [("math/bits.deBruijn32tab", Rows.laid_math_bits_deBruijn32tab), ("math/bits.deBruijn64tab", Rows.laid_math_bits_deBruijn64tab), ("internal/strconv.uint64pow10", Rows.laid_internal_strconv_uint64pow10), ("unicode/utf8.acceptRanges", Rows.laid_unicode_utf8_acceptRanges), ("strconv.ErrRange", Rows.laid_strconv_ErrRange), ("strconv.ErrSyntax", Rows.laid_strconv_ErrSyntax), ("unicode/utf8.first", Rows.laid_unicode_utf8_first)]

def tab32 : List Int := [0, 1, 28, 2, 29, 14, 24, 3, 30, 22, 20, 15, 25, 17, 4, 8, 31, 27, 13, 23, 21, 19, 16, 7, 26, 12, 18, 6, 11, 5, 10, 9]
def tab64 : List Int := [0, 1, 56, 2, 57, 49, 28, 3, 61, 58, 42, 50, 38, 29, 17, 4, 62, 47, 59, 36, 45, 43, 51, 22, 53, 39, 33, 30, 24, 18, 12, 5, 63, 55, 48, 27, 60, 41, 37, 16, 46, 35, 44, 21, 52, 32, 23, 11, 54, 26, 40, 15, 34, 20, 31, 10, 25, 14, 19, 9, 13, 8, 7, 6]
def tab10 : List Int := [1, 10, 100, 1000, 10000, 100000, 1000000, 10000000, 100000000, 1000000000, 10000000000, 100000000000, 1000000000000, 10000000000000, 100000000000000, 1000000000000000, 10000000000000000, 100000000000000000, 1000000000000000000, 10000000000000000000]
def tabF : List Int := Go.Pinned.utf8FirstZ.map Int.ofNat
noncomputable def arT : TypeId := ((Tryz.prog.globals[1]?).map (·.type)).get!
noncomputable def arE : TypeId := match Tryz.prog.underlying arT with
  | some (.array _ e) => e
  | _ => 0
noncomputable def arF (i : Nat) : Field := match Tryz.prog.underlying arE with
  | some (.struct fs) => fs[i]!
  | _ => default

theorem inv_start {W : World} (hL : laidMet Tryz.prog theLaid W) : Inv E (ghost0 W) [] W := by
  refine inv0 ?_
  obtain ⟨ps, hv, _⟩ := hL
  intro gl i x hx
  rw [E_glob] at hx
  have c5 : Tryz.prog.cellsOf 5 = 1 := by kernel_rfl
  unfold glob at hx
  split at hx
  · refine tab_cells hv (name := "unicode/utf8.first") (k := .u8) (zs := tabF) (g := 0) (e := 5) (n := 256) ?_ (by kernel_rfl) (t := ((Tryz.prog.globals[0]?).map (·.type)).get!) (by kernel_rfl) (by kernel_rfl) (by kernel_rfl) c5 (by kernel_rfl) i x ?_
    · have : (Lib.tabData .u8 tabF : DataW Unit) = Rows.laid_unicode_utf8_first := by kernel_rfl
      rw [this]; simp [theLaid]
    · rw [← hx]; exact congrArg (·[i]?) (by kernel_rfl)
  · refine pair_cells hv (name := "unicode/utf8.acceptRanges") (zs := arZ) (g := 1) (n := 16) (e := arE) (f0 := arF 0) (f1 := arF 1) (a := 0) ?_ (by kernel_rfl) (t := arT) (by kernel_rfl) (by kernel_rfl) (by kernel_rfl) (by kernel_rfl) (by kernel_rfl) (by kernel_rfl) (by kernel_rfl) (by kernel_rfl) (by kernel_rfl) (by kernel_rfl) i x ?_
    · have : (.agg (arZ.map fun z => .agg [.lit (.int .u8 z.1), .lit (.int .u8 z.2)]) : DataW Unit) = Rows.laid_unicode_utf8_acceptRanges := by kernel_rfl
      rw [this]; simp [theLaid]
    · rw [← hx]; exact congrArg (·[i]?) (by kernel_rfl)
  · refine tab_cells hv (name := "internal/strconv.uint64pow10") (k := .u64) (zs := tab10) (g := 2) (e := 25) (n := 20) ?_ (by kernel_rfl) (t := ((Tryz.prog.globals[2]?).map (·.type)).get!) (by kernel_rfl) (by kernel_rfl) (by kernel_rfl) cells25 (by kernel_rfl) i x ?_
    · have : (Lib.tabData .u64 tab10 : DataW Unit) = Rows.laid_internal_strconv_uint64pow10 := by kernel_rfl
      rw [this]; simp [theLaid]
    · rw [← hx]; exact congrArg (·[i]?) (by kernel_rfl)
  · refine tab_cells hv (name := "math/bits.deBruijn32tab") (k := .u8) (zs := tab32) (g := 6) (e := 5) (n := 32) ?_ (by kernel_rfl) (t := ((Tryz.prog.globals[6]?).map (·.type)).get!) (by kernel_rfl) (by kernel_rfl) (by kernel_rfl) c5 (by kernel_rfl) i x ?_
    · have : (Lib.tabData .u8 tab32 : DataW Unit) = Rows.laid_math_bits_deBruijn32tab := by kernel_rfl
      rw [this]; simp [theLaid]
    · rw [← hx]; exact congrArg (·[i]?) (by kernel_rfl)
  · refine tab_cells hv (name := "math/bits.deBruijn64tab") (k := .u8) (zs := tab64) (g := 7) (e := 5) (n := 64) ?_ (by kernel_rfl) (t := ((Tryz.prog.globals[7]?).map (·.type)).get!) (by kernel_rfl) (by kernel_rfl) (by kernel_rfl) c5 (by kernel_rfl) i x ?_
    · have : (Lib.tabData .u8 tab64 : DataW Unit) = Rows.laid_math_bits_deBruijn64tab := by kernel_rfl
      rw [this]; simp [theLaid]
    · rw [← hx]; exact congrArg (·[i]?) (by kernel_rfl)
  · simp at hx
end Go.AI.Jx
end
section
set_option linter.all false
set_option maxRecDepth 100000
namespace Go.AI.Jx
open Go Go.Proofs Go.Proofs.YthlogeaejcaggaaGreatDoor Go.ChangeShapes Go.WideShapes Go.ChangeAt Go.RowKit

theorem laidOut : laidOutB Tryz.prog = true := by kernel_rfl
theorem rec29 : Tryz.prog.readableRec 29 = true := by kernel_rfl
theorem lt29 : 29 < Tryz.prog.types.size := of_decide_eq_true (by kernel_rfl)

/-- A value handed in: an aggregate of nine cells. -/
theorem open_arg {H : Type} {enc : TypeId × Value → H} {W : World} {base : Nat} {spare : Nat → Bool} {held : Bool} {v : Value} {d : DataW H} {ps : List MemPlace} (hv : Value.okWide Tryz.prog W .any base 29 v) (h : DataW.Trod enc Tryz.prog W 0 spare held 29 v d ps) :
    ∃ x : VT, Rel (ghost0 W) (.agg x.enc) v ∧ x.need + 1 ≤ bulk d ∧ x.wf := by
  unfold Value.okWide at hv
  rw [Tryz.underlying29] at hv
  obtain ⟨cs, rfl, _, _⟩ := hv
  obtain ⟨fuel, hf⟩ := h
  obtain ⟨x, r, hb, hw⟩ := open_v fuel hf
  refine ⟨x, ?_, hb, hw⟩
  have hc : (Value.agg cs).cells.toList = cs.toList := by simp [Value.cells]
  rw [hc] at r
  have := Rel.agg (g := ghost0 W) r.1 r.2
  simpa using this

/-- What a law of two values owes. -/
def Law2 (f : FuncId) : Prop := ∀ v w : VT, v.need < 2 ^ 21 → w.need < 2 ^ 21 → v.wf → w.wf → ∃ H', Con E f [.agg v.enc, .agg w.enc] [] (.ret (.v (.bool true))) H'

theorem contract2 {f : FuncId} {fn : Func} (hp : fn.params.toList = [29, 29]) (hr : fn.resultTypes = #[4]) (hlaw : Law2 f) {s : ChangeSpec} (hs : ∀ (H : Type) (d1 d2 : DataW H), s.fn H [d1, d2] = { results := [.lit (.bool true)], args := [d1, d2] }) (hvars : s.vars = [])
    (H : Type) (enc : TypeId × Value → H) (W : World) (base : Nat) (args : Array Value) (ds gs : List (DataW H)) (before : List MemPlace)
    (hval : ∀ (j : Nat) t v, fn.params[j]? = some t → args[j]? = some v → Value.okWide Tryz.prog W .any base t v)
    (hW : DataW.Whole enc Tryz.prog fn.params.toList s.vars false W args.toList ds gs before) (hL : laidMet Tryz.prog theLaid W) (hk : Rows.uptoSmall H (ds ++ gs) = true) :
    Calls Tryz.prog f args W fun e W' => ∃ v, e = .returned v ∧ s.post enc Tryz.prog fn false true false false W args v W' := by
  have hW' := hW
  obtain ⟨p, q, hA0, hV, rfl, hfz, hnd⟩ := hW
  rw [hvars] at hV
  obtain ⟨rfl, rfl⟩ := trodVars_none hV
  have hA : DataW.TrodAll enc Tryz.prog W 0 (fun _ => true) true [29, 29] args.toList ds p := by rw [← hp]; exact hA0
  have hpar : ∀ j : Nat, fn.params[j]? = ([29, 29] : List TypeId)[j]? := fun j => by rw [← hp]; simp
  obtain ⟨v0, vs0, d0, ds0, p0, q0, hargs, rfl, rfl, h0, r0⟩ := trodAll_cons hA
  obtain ⟨v1, vs1, d1, ds1, p1, q1, hargs1, rfl, rfl, h1, r1⟩ := trodAll_cons r0
  obtain ⟨rfl, rfl, rfl⟩ := trodAll_nil r1
  subst hargs1
  obtain rfl : args = #[v0, v1] := by cases args; simp_all
  obtain ⟨x, rx, bx, wx⟩ := open_arg (hval 0 29 v0 (by rw [hpar]; rfl) rfl) h0
  obtain ⟨y, ry, by_, wy⟩ := open_arg (hval 1 29 v1 (by rw [hpar]; rfl) rfl) h1
  have hsmall : bulk d0 + bulk d1 ≤ 1048576 := by
    have := of_decide_eq_true hk
    simp only [List.append_nil, Rows.uptoBulkAll] at this
    simp only [bulk]; omega
  obtain ⟨H', hc⟩ := hlaw x y (by omega) (by omega) wx wy
  have call := hc (ghost0 W) W [v0, v1] (inv_start hL) (.cons rx (.cons ry (.nil _)))
  refine call.mono fun e W' he => ?_
  cases e with
  | returned u =>
    obtain ⟨z, g', hz, I', S, rz⟩ := he
    cases hz
    have hu := rel_v rz
    subst hu
    obtain ⟨k1, k2, k3, k4⟩ := keeps S
    have hlt := hW'.lt
    simp only [List.append_nil] at hW' hlt
    refine ⟨_, rfl, post_kept (pa := p0 ++ p1) (pv := []) hW' ?_ ?_ ?_ (by simp) (keptBut_of k1 k2 k3) k1 ?_⟩
    · intro b sp hd
      rw [List.append_nil, hs, hr]
      exact trodAll_cons_mk (shut_bool Tryz.underlying4 _) trodAll_mk0
    · intro sp hsp
      rw [List.append_nil, hs, hp]
      have t0 := trod_kept laidOut rec29 lt29 h0 k1 (fun x hx => hlt x (by simp [hx])) sp (fun x hx => hsp x (by simp [hx]))
      have t1 := trod_kept laidOut rec29 lt29 h1 k1 (fun x hx => hlt x (by simp [hx])) sp (fun x hx => hsp x (by simp [hx]))
      have := trodAll_cons_mk t0 (trodAll_cons_mk t1 trodAll_mk0)
      simpa using this
    · intro sp hsp
      rw [List.append_nil, hs, hvars]
      rfl
    · exact ok_one (t := 4) hr rfl (okWide_bool_mk Tryz.underlying4 _)
  | panicked chain =>
    obtain ⟨z, v, g', hz, _⟩ := he
    cases hz
  | outgrown => exact he.elim
end Go.AI.Jx
end

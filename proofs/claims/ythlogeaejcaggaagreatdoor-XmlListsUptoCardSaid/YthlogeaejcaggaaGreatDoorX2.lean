/- A part of the proof: JxFormed, JxBld, JxBld2, JxBld3, JxBldCon, JxShelf, JxLibCon, JxNum, JxCheck. -/
import Derived.Shelf.Unicode.ValidAny
import Derived.Shelf.Strings.SlTrimAscii
import Derived.Shelf.LaysM
import Derived.Shelf.Strconv.Itoa2
import Derived.Shelf.Strconv.Itoa3
import Derived.Test.YthlogeaejcaggaaGreatDoorProg
import Derived.Test.YthlogeaejcaggaaGreatDoorX1
import Derived.Test.YthlogeaejcaggaaGreatDoorA3
set_option linter.all false
section
set_option linter.all false
namespace Go.AI
open Go
namespace Jx
open Go Go.Proofs

theorem code33 : E.code 33 = some (Tryz.f33, (Tryz.f33.body).get!) := by kernel_rfl
theorem code66 : E.code 66 = some (Tryz.f66, (Tryz.f66.body).get!) := by kernel_rfl
theorem z29 : zeroT E.P 29 = some (.agg #[.int .i64 0, .bool false, .bool false, .string ⟨#[]⟩, .int .i64 0, .int .u64 0, .string ⟨#[]⟩, .slice none 0 0, .slice none 0 0]) := by kernel_rfl
theorem build24 {ρ : Operand → AV} {dst : Option Tmp} {ty : TypeId} {pos : String} {after : Array Edge} {gd : Option (Nat × Bool)} {H : Heap} : aop E ρ ⟨dst, .build 24 #[], ty, pos, after, gd⟩ H = some (.val (.agg [.v (.bool false), .v (.string ⟨#[]⟩), .v (.int .i64 0)]), H) := by kernel_rfl
theorem okH2 {k f ng d e b t} {nn ll : AV} {ns : List ByteArray} {l : List VT} {k' f' ng' d' e' b' t'} (h1 : nn.under 0 = true) (h2 : ll.under 0 = true) :
    OkH [.box 29 [.v (.int .i64 k), .v (.bool f), .v (.bool ng), .v (.string d), .v (.int .i64 e), .v (.int .u64 b), .v (.string t), .sl ns.length (ns.map fun s => .v (.string s)), .sl l.length (VT.encL l)], .box 29 [.v (.int .i64 k'), .v (.bool f'), .v (.bool ng'), .v (.string d'), .v (.int .i64 e'), .v (.int .u64 b'), .v (.string t'), nn, ll]] = True := by
  have hn : AV.underL 2 (ns.map fun s => AV.v (.string s)) = true := by
    induction ns with
    | nil => rfl
    | cons s r ih => simpa [AV.underL, AV.under] using ih
  have hl := underL_mono (Nat.zero_le 2) _ (encL_under l)
  have h1' := under_mono (Nat.zero_le 2) _ h1
  have h2' := under_mono (Nat.zero_le 2) _ h2
  simp [OkH, AObj.under, AV.underL, AV.under, hn, hl, h1', h2']
theorem under_names {ns : List ByteArray} {n : Nat} : (AV.sl n (ns.map fun s => AV.v (.string s))).under 0 = true := by
  simp only [AV.under]
  induction ns with
  | nil => rfl
  | cons s r ih => simpa [AV.underL, AV.under] using ih
theorem under_list {l : List VT} {n : Nat} : (AV.sl n (VT.encL l)).under 0 = true := encL_under l
theorem under_nil {a : Option Addr} {n c : Nat} : (AV.v (.slice a n c)).under 0 = true := by simp only [AV.under]
section
variable (valid : ByteArray → Bool) (chk : Bool → ByteArray → Int → Int)
mutual
def VT.formed : VT → Bool
  | .mk k f n d e b t ns l =>
    bif k == 1 then own true f n d e b t ns.length l.length && VT.formedL l else
    bif k == 2 then own true false n d e b t ns.length l.length && VT.formedL l else
    bif k == 3 then own (chk n d e == 0) f false ⟨#[]⟩ 0 b t ns.length l.length && VT.formedL l else
    bif k == 4 then own true f n d e 0 t ns.length l.length && VT.formedL l else
    bif k == 5 then own (valid t) f n d e b ⟨#[]⟩ ns.length l.length && VT.formedL l else
    bif k == 6 then own true f n d e b ⟨#[]⟩ ns.length l.length && VT.formedL l else
    bif k == 7 then own true f n d e b t ns.length 0 && VT.formedL l else
    bif k == 8 then own ((ns.length : Int) == l.length && namesB valid [] ns) f n d e b t 0 0 && VT.formedL l else
    bif k == 9 then own ((l.length : Int) == 1 && valid t) f n d e b ⟨#[]⟩ ns.length 0 && VT.formedL l else false
def VT.formedL : List VT → Bool
  | [] => true
  | v :: vs => VT.formed v && VT.formedL vs
/-- What a kind does not use is zero. -/
def own (ok f n : Bool) (d : ByteArray) (e b : Int) (t : ByteArray) (nn ll : Nat) : Bool := ok && !f && (n == false && d == ⟨#[]⟩ && e == 0) && !(b != 0) && decide (t = ⟨#[]⟩) && !decide ((nn : Int) > 0) && !decide ((ll : Int) > 0)
end

set_option maxHeartbeats 4000000 in
theorem formed_walk {call : CallFn} {n : Nat} (h66 : ∀ n d e H, d.size ≤ 2 ^ 46 → call 66 [.agg [.v (.bool n), .v (.string d), .v (.int .i64 e)]] H = some (.ret (.v (.int .i64 (chk n d e))), H))
    (h67 : ∀ s H, s.size ≤ 2 ^ 46 → call 67 [.v (.string s)] H = some (.ret (.v (.bool (valid s))), H)) (k : Int) (f ng : Bool) (d : ByteArray) (e b : Int) (t : ByteArray) (ns : List ByteArray) (l : List VT)
    (h68 : ∀ H, call 68 [.sl ns.length (ns.map fun s => .v (.string s))] H = some (.ret (.v (.bool (namesB valid [] ns))), H))
    (h69 : ∀ H, OkH H → call 69 [.sl l.length (VT.encL l), .fn (.func 70) [] []] H = some (.ret (.v (.bool (!VT.formedL valid chk l))), H)) (hdz : d.size ≤ 2 ^ 46) (htz : t.size ≤ 2 ^ 46) :
    Gives (abody E call n Tryz.f33 (Tryz.f33.body.get!) [.agg (VT.enc (.mk k f ng d e b t ns l))] []) (.ret (.v (.bool ((VT.mk k f ng d e b t ns l).formed valid chk)))) := by
  rw [abody_K]
  obtain ⟨tm0, htm, h0, hfr⟩ : ∃ tm0 : List AV, tm0.length = 103 ∧ tm0.getD 0 (.v undef) = .agg (VT.enc (.mk k f ng d e b t ns l)) ∧ aframe E Tryz.f33 [.agg (VT.enc (.mk k f ng d e b t ns l))] [] = ⟨tm0, [], []⟩ := ⟨_, rfl, rfl, rfl⟩
  rw [hfr]
  obtain ⟨fin, hfin, hret⟩ : ∃ fin, fin = afin E call n Tryz.f33 ∧ ∀ tm H, fin (some (.ret, ⟨tm, [], H⟩)) = some (.ret (tm.getD 2 (.v undef)), H) := ⟨_, rfl, fun _ _ => rfl⟩
  rw [← hfin]
  generalize hq : aK E call n fin [] (acode E call n (Tryz.f33.body.get!) ⟨tm0, [], []⟩) = q
  simp [Tryz.f33] at hq
  have hb : (Code.skip = Code.skip) ↔ True := by simp
  repeat' (first
    | (simp only [cond_iff, guardT_iff, guardF_iff, aret_iff, kguardT_iff, kguardF_iff] at hq; rcases hq with ⟨hb, hq⟩ | ⟨hb, hq⟩)
    | simp only [kops_nil, kops_plain, kops_if, kstep_val, kstep_skip, kstep_call, kret_ret, kguard_tt, kguard_ff, kguard_tf, kguard_ft, kguard_un, kone_plain, koneS_val, koneS_skip, koneS_call, koneR_ret, aK_seq, aK_block, aK_region, aK_skip, aK_exit, aK_ret, aK_loop, aK_seq_n, aK_seq_e, aK_seq_r, aK_seq_p, aK_blk_n, aK_blk_e, aK_blk_r, aK_blk_p, aK_nil_n, aK_nil_e, aK_nil_r, aK_nil_p, aK_cond, abr_true, abr_false, astep_call, aret_ret, aret_pan, astep_dfr, afin_ret, afin_normal, afin_pan, oload_p, oloadO_box, oload_ep, aload_eq, oload1_one, oload1_agg, ostore_p, ostoreO_box, astore_eq, ostore1_some, cells_int, cells_bool, cells_string, cells_sl, cells_asl, cells_ptr, cells_mp, cells_agg, cells_ifc, cells_fn, cells_slice, cells_nilIface, cells_pointer, ofield_ptr, ofield_ep, aop_field, aop_nilCheck, onil_ptr, aop_extract, oext_tup, aop_makeFunc, aop_alloc', oalloc_some, aop_panic, opan_ifc, cond_bool, cond_int, cond_str, obin_seq, obin_sne, oc_lss, oc_leq, oc_gtr, oc_geq, oc_eql, oc_neq, oa_add, oa_sub, oa_mul, olen_str, tyL, tyA, tyS, tyU, tyF, aop_lookup, aop_update, aop_makeMap, aop_un, oun_not, aops_if, aguard_tt, aguard_ff, aguard_tf, aguard_ft, aguard_un, gslot, gval_some, aop_pick, opick_bool, cond_true, cond_false, List.getElem?_toArray, List.getElem?_cons_succ, List.getElem?_cons_zero, Option.bind_some, goInt, conv, convA, conv1, List.toList_toArray, Option.get!_some, ne_eq, not_false_eq_true, decide_false, decide_true, Nat.reduceEqDiff, Nat.reduceLT, Nat.reduceAdd, Nat.reduceLeDiff, Option.map_some, List.map_cons, List.map_nil, aops_nil, aops_plain, astep_val, astep_skip, astep_pan, putA_some, putA_none, aval_tmp, aval_const, aval_global, aval_func, aop_move, aop_assign, aop_box, obox_some, aop_fieldAddr, aop_load, aop_store, aop_bin, aop_call, aop_len, aop_max, omax_int, List.length_set, getD_set_self, getD_set_ne, List.length_cons, List.length_nil, List.nil_append, List.cons_append, List.set_cons_zero, List.set_cons_succ, Nat.zero_add, Nat.add_zero, List.drop_succ_cons, List.drop_zero, List.take_succ_cons, List.take_zero, splice, List.all_cons, List.all_nil, AV.one, Bool.and_true, Bool.and_self, and_self, if_true, if_false, reduceCtorEq, Bool.not_true, Bool.not_false, Bool.true_and, Bool.false_and, VT.enc, hb, htm, h0, hret, z29, build24, obin_eq24, obin_ne24, ocall_fn code66, ocall_fn code67, ocall_fn code68, ocall_fn code69, h66, h67, h68, h69, hdz, htz, okH2, under_names, under_list, under_nil] at hq)
  all_goals (subst hq; rw [gives_some, ret_bool]; clear h66 h67 h68 h69 hdz htz hret htm h0 hfr hfin; simp_all [VT.formed, own])
  all_goals grind
end
end Jx
end Go.AI
end
section
set_option linter.all false
set_option maxRecDepth 100000
namespace Go.AI.Jx
open Go Go.Proofs

theorem code37 : E.code 37 = some (Tryz.f37, (Tryz.f37.body).get!) := by kernel_rfl
theorem code43 : E.code 43 = some (Tryz.f43, (Tryz.f43.body).get!) := by kernel_rfl
theorem code74 : E.code 74 = some (Tryz.f74, (Tryz.f74.body).get!) := by kernel_rfl
theorem code23 : E.code 23 = some (Tryz.f23, (Tryz.f23.body).get!) := by kernel_rfl
theorem code24 : E.code 24 = some (Tryz.f24, (Tryz.f24.body).get!) := by kernel_rfl

/-- A Builder that has been written: its text. -/
structure BAt (H : Heap) (id row : Nat) (s : ByteArray) : Prop where
  box : H[id]? = some (.box 46 [.ptr id 0, .asl row s.size])
  arr : H[row]? = some (.arr 5 s.size false (bytesAV s))
def bput (H : Heap) (id row : Nat) (s : ByteArray) : Heap := (H.set id (.box 46 [.ptr id 0, .asl row s.size])).set row (.arr 5 s.size false (bytesAV s))
/-- One that has not. -/
def BNil (H : Heap) (id : Nat) : Prop := H[id]? = some (.box 46 [.v (.pointer none), .v (.slice none 0 0)])
def bnil (H : Heap) (id : Nat) (s : ByteArray) : Heap := (H.set id (.box 46 [.ptr id 0, .asl H.length s.size])) ++ [.arr 5 s.size false (bytesAV s)]

theorem BAt.ne {H : Heap} {id row : Nat} {s : ByteArray} (h : BAt H id row s) : id ≠ row := fun e => by
  have h1 := h.box
  rw [e, h.arr] at h1
  cases h1
theorem BAt.lt {H : Heap} {id row : Nat} {s : ByteArray} (h : BAt H id row s) : id < H.length ∧ row < H.length := ⟨(List.getElem?_eq_some_iff.1 h.box).1, (List.getElem?_eq_some_iff.1 h.arr).1⟩
theorem bput_at {H : Heap} {id row : Nat} {s t : ByteArray} (h : BAt H id row s) : BAt (bput H id row t) id row t := by
  obtain ⟨l1, l2⟩ := h.lt
  have hn := h.ne
  constructor
  · unfold bput
    rw [List.getElem?_set_ne (Ne.symm hn), List.getElem?_set_self l1]
  · unfold bput
    rw [List.getElem?_set_self (by simpa using l2)]
theorem BAt.push {H : Heap} {id row : Nat} {s : ByteArray} (h : BAt H id row s) (ext : Heap) : BAt (H ++ ext) id row s := by
  obtain ⟨l1, l2⟩ := h.lt
  exact ⟨by rw [List.getElem?_append_left l1]; exact h.box, by rw [List.getElem?_append_left l2]; exact h.arr⟩
theorem bput_bput {H : Heap} {id row : Nat} {s t u : ByteArray} (h : BAt H id row s) : bput (bput H id row t) id row u = bput H id row u := by
  have hn := h.ne
  unfold bput
  rw [List.set_comm _ _ (Ne.symm hn), List.set_set, List.set_set]
theorem bput_push {H ext : Heap} {id row : Nat} {s u : ByteArray} (h : BAt H id row s) : bput (H ++ ext) id row u = bput H id row u ++ ext := by
  obtain ⟨l1, l2⟩ := h.lt
  unfold bput
  rw [List.set_append_left _ _ l1, List.set_append_left _ _ (by simpa using l2)]
theorem bput_len {H : Heap} {id row : Nat} {s : ByteArray} : (bput H id row s).length = H.length := by simp [bput]
theorem bput_self {H : Heap} {id row : Nat} {s : ByteArray} (h : BAt H id row s) : bput H id row s = H := by
  unfold bput
  have h1 : H.set id (.box 46 [.ptr id 0, .asl row s.size]) = H := by
    apply List.ext_getElem?
    intro i
    by_cases e : id = i
    · subst e; rw [List.getElem?_set_self h.lt.1, h.box]
    · rw [List.getElem?_set_ne e]
  rw [h1]
  apply List.ext_getElem?
  intro i
  by_cases e : row = i
  · subst e; rw [List.getElem?_set_self h.lt.2, h.arr]
  · rw [List.getElem?_set_ne e]
theorem bytesAV_inj {s t : ByteArray} (h : bytesAV s = bytesAV t) : s = t := by
  have := congrArg byteCells h
  rw [byteCells_bytes, byteCells_bytes] at this
  have h2 := Option.some.inj this
  obtain ⟨a⟩ := s
  obtain ⟨b⟩ := t
  congr 1
  exact Array.toList_inj.1 h2
theorem BAt.uniq {H : Heap} {id row row' : Nat} {s s' : ByteArray} (h : BAt H id row s) (h' : BAt H id row' s') : row = row' ∧ s = s' := by
  have h1 := h.box.symm.trans h'.box
  simp only [Option.some.injEq, AObj.box.injEq, List.cons.injEq, AV.asl.injEq, true_and, and_true] at h1
  obtain ⟨e1, e2⟩ := h1
  subst e1
  have h2 := h.arr.symm.trans h'.arr
  simp only [Option.some.injEq, AObj.arr.injEq, true_and] at h2
  exact ⟨rfl, bytesAV_inj h2.2⟩
theorem gc_len {H H' : Heap} {r : AEnd} (h : H'.length = H.length) : gc H.length (r, H') = (r, H') := by
  unfold gc
  have : H'.take H.length = H' := List.take_of_length_le (by omega)
  split <;> simp [this]

section
variable {H : Heap} {ρ : Operand → AV} {dst : Option Tmp} {ty : TypeId} {pos : String} {after : Array Edge} {gd : Option (Nat × Bool)} {x y : Operand} {id row off : Nat} {s t : ByteArray}
theorem eq44 : obin E.P .eql 44 x y H (.ptr id off) (.v (.pointer none)) = some (.val (.v (.bool false)), H) := by kernel_rfl
theorem eq44n : obin E.P .eql 44 x y H (.v (.pointer none)) (.v (.pointer none)) = some (.val (.v (.bool true)), H) := by kernel_rfl
theorem ne44 : obin E.P .neq 44 x y H (.ptr id off) (.ptr id off) = some (.val (.v (.bool false)), H) := by
  have h1 : E.P.underlying 44 = some (.pointer 46) := by kernel_rfl
  have h2 : sizeT E.P 46 = some 2 := by kernel_rfl
  simp [obin, AV.un, h1, h2]
theorem cv44 {cs : List AV} (h : H[id]? = some (.box 46 cs)) (hl : off < cs.length) : oconv E.P 44 117 H (.ptr id off) = some (.val (.ptr id off), H) := by
  have h1 : E.P.underlying 44 = some (.pointer 46) := by kernel_rfl
  have h2 : sizeT E.P 46 = some 2 := by kernel_rfl
  have h3 : E.P.underlying 117 = some .unsafePointer := by kernel_rfl
  simp [oconv, h1, h2, h3, h, hl]
theorem cv117 {a b : AV} (h : H[id]? = some (.box 46 [a, b])) : oconv E.P 117 44 H (.ptr id 0) = some (.val (.ptr id 0), H) := by
  have h1 : E.P.underlying 44 = some (.pointer 46) := by kernel_rfl
  have h2 : sizeT E.P 46 = some 2 := by kernel_rfl
  have h3 : E.P.underlying 117 = some .unsafePointer := by kernel_rfl
  have h4 : E.P.cellsOf 46 = 2 := by kernel_rfl
  have h5 : liesAt E.P E.P.depth 46 1 0 46 1 = true := by kernel_rfl
  simp [oconv, h1, h2, h3, h, h4, h5]
theorem E111 : ocall E H [.ptr id off] (.fn (.func 111) [] []) = some (.val (.ptr id off), H) := by
  have h1 : E.code 111 = none := by kernel_rfl
  have h2 : E.noesc 111 = true := by kernel_rfl
  simp [ocall, h1, h2]

def oapp (P : Program) (H : Heap) (t u : TypeId) (s x : AV) : Option (ARes × Heap) := match P.underlying t, appendT (P.underlying u) with
        | some (.slice e), true => match P.info? e, appendCells H x with
          | some i, some (m, ys) => match s with
            | .v (.slice none 0 0) => if (i.zero.map fun z => z.cells.size) = some i.size ∧ ys.length = m * i.size ∧ ys.all AV.one = true ∧ i.size ≠ 0 ∧ m * i.bytes ≤ 2 ^ 46 ∧ m ≤ 2 ^ 46 then
                (if m = 0 then some (.val (.v (.slice none 0 0)), H) else some (.val (.asl H.length m), H ++ [.arr e m false ys])) else none
            | .asl id n => match H[id]? with
              | some (.arr e' n' fz cs) => if (i.zero.map fun z => z.cells.size) = some i.size ∧ e' = e ∧ n' = n ∧ fz = false ∧ cs.length = n * i.size ∧ ys.length = m * i.size ∧ ys.all AV.one = true ∧ i.size ≠ 0 ∧ (n + m) * i.bytes ≤ 2 ^ 46 ∧ n + m ≤ 2 ^ 46 ∧ otherRow x id = true then
                  some (.val (.asl id (n + m)), H.set id (.arr e (n + m) false (cs ++ ys))) else none
              | _ => none
            | _ => none
          | _, _ => none
        | _, _ => none
theorem aop_app {t u : TypeId} : aop E ρ ⟨dst, .call { callee := .builtin .append, args := #[x, y], argTypes := #[t, u] }, ty, pos, after, gd⟩ H = oapp E.P H t u (ρ x) (ρ y) := rfl
theorem info5 : ∃ i, E.P.info? 5 = some i ∧ (i.zero.map fun z => z.cells.size) = some i.size ∧ i.size = 1 ∧ i.bytes = 1 := ⟨(E.P.info? 5).get!, by kernel_rfl, by kernel_rfl, by kernel_rfl, by kernel_rfl⟩
/-- Bytes are put behind a row. -/
theorem app_str {u : TypeId} {a : AV} (hu : appendT (E.P.underlying u) = true) (ha : appendCells H a = some (t.size, bytesAV t)) (ho : otherRow a row = true) (hr : H[row]? = some (.arr 5 s.size false (bytesAV s))) (hs : s.size + t.size ≤ 2 ^ 46) :
    oapp E.P H 30 u (.asl row s.size) a = some (.val (.asl row (s ++ t).size), H.set row (.arr 5 (s ++ t).size false (bytesAV (s ++ t)))) := by
  obtain ⟨i, h1, h2, h3, h4⟩ := info5
  have h5 : E.P.underlying 30 = some (.slice 5) := by kernel_rfl
  have hsz : (s ++ t).size = s.size + t.size := by simp
  rw [hsz, bytesAV_append]
  rw [h3] at h2
  have hl := bytesAV_length (s := s)
  have hl2 := bytesAV_length (s := t)
  simp only [oapp, h5, hu, h1, ha, hr, h2, h3, h4, hl, hl2, Nat.mul_one, bytesAV_one, ho]
  rw [if_pos (by simp; exact hs)]
theorem app_nil {u : TypeId} {a : AV} (hu : appendT (E.P.underlying u) = true) (ha : appendCells H a = some (t.size, bytesAV t)) (h0 : t.size ≠ 0) (hs : t.size ≤ 2 ^ 46) :
    oapp E.P H 30 u (.v (.slice none 0 0)) a = some (.val (.asl H.length t.size), H ++ [.arr 5 t.size false (bytesAV t)]) := by
  obtain ⟨i, h1, h2, h3, h4⟩ := info5
  have h5 : E.P.underlying 30 = some (.slice 5) := by kernel_rfl
  rw [h3] at h2
  have hl2 := bytesAV_length (s := t)
  simp only [oapp, h5, hu, h1, ha, h2, h3, h4, hl2, Nat.mul_one, bytesAV_one]
  rw [if_pos (by simp; exact hs), if_neg h0]
theorem appT9 : appendT (E.P.underlying 9) = true := by kernel_rfl
theorem appT30 : appendT (E.P.underlying 30) = true := by kernel_rfl
end

/-! ### copyCheck -/
theorem cc_at {call : CallFn} {n : Nat} {H : Heap} {id row : Nat} {s : ByteArray} (h : BAt H id row s) : abody E call n Tryz.f74 (Tryz.f74.body.get!) [.ptr id 0] H = some (.ret (.tup []), H) := by
  rw [abody_K]
  obtain ⟨tm0, htm, h00, hfr⟩ : ∃ tm0 : List AV, tm0.length = 20 ∧ tm0.getD 0 (.v undef) = .ptr id 0 ∧ aframe E Tryz.f74 [.ptr id 0] H = ⟨tm0, [], H⟩ := ⟨_, rfl, rfl, rfl⟩
  rw [hfr]
  obtain ⟨fin, hfin, hret, hnor⟩ : ∃ fin, fin = afin E call n Tryz.f74 ∧ (∀ tm H, fin (some (.ret, ⟨tm, [], H⟩)) = some (.ret (.tup []), H)) ∧ ∀ tm H, fin (some (.normal, ⟨tm, [], H⟩)) = some (.ret (.tup []), H) := ⟨_, rfl, fun _ _ => rfl, fun _ _ => rfl⟩
  rw [← hfin]
  generalize hq : aK E call n fin [] (acode E call n (Tryz.f74.body.get!) ⟨tm0, [], H⟩) = q
  simp [Tryz.f74] at hq
  simp only [kops_nil, kops_plain, kops_if, kstep_val, kstep_skip, kstep_call, kret_ret, kguard_tt, kguard_ff, kguard_tf, kguard_ft, kguard_un, kone_plain, koneS_val, koneS_skip, koneS_call, koneR_ret, aK_seq, aK_block, aK_region, aK_skip, aK_exit, aK_ret, aK_loop, aK_seq_n, aK_seq_e, aK_seq_r, aK_seq_p, aK_blk_n, aK_blk_e, aK_blk_r, aK_blk_p, aK_nil_n, aK_nil_e, aK_nil_r, aK_nil_p, aK_cond, abr_true, abr_false, astep_call, aret_ret, aret_pan, astep_dfr, afin_ret, afin_normal, afin_pan, oload_p, oloadO_box, oload_ep, aload_eq, oload1_one, oload1_agg, ostore_p, ostoreO_box, astore_eq, ostore1_some, cells_int, cells_bool, cells_string, cells_sl, cells_asl, cells_ptr, cells_mp, cells_agg, cells_ifc, cells_fn, cells_slice, cells_nilIface, cells_pointer, ofield_ptr, ofield_ep, aop_field, aop_nilCheck, onil_ptr, aop_extract, oext_tup, aop_makeFunc, aop_alloc', oalloc_some, aop_panic, opan_ifc, cond_bool, cond_int, cond_str, obin_seq, obin_sne, oc_lss, oc_leq, oc_gtr, oc_geq, oc_eql, oc_neq, oa_add, oa_sub, oa_mul, olen_str, tyL, tyA, tyS, tyU, tyF, aop_lookup, aop_update, aop_makeMap, aop_un, oun_not, aops_if, aguard_tt, aguard_ff, aguard_tf, aguard_ft, aguard_un, gslot, gval_some, aop_pick, opick_bool, cond_true, cond_false, List.getElem?_toArray, List.getElem?_cons_succ, List.getElem?_cons_zero, Option.bind_some, goInt, conv, convA, conv1, List.toList_toArray, Option.get!_some, ne_eq, not_false_eq_true, decide_false, decide_true, Nat.reduceEqDiff, Nat.reduceLT, Nat.reduceAdd, Nat.reduceLeDiff, Option.map_some, List.map_cons, List.map_nil, aops_nil, aops_plain, astep_val, astep_skip, astep_pan, putA_some, putA_none, aval_tmp, aval_const, aval_global, aval_func, aop_move, aop_assign, aop_box, obox_some, aop_fieldAddr, aop_load, aop_store, aop_bin, aop_call, aop_len, aop_max, omax_int, List.length_set, getD_set_self, getD_set_ne, List.length_cons, List.length_nil, List.nil_append, List.cons_append, List.set_cons_zero, List.set_cons_succ, Nat.zero_add, Nat.add_zero, List.drop_succ_cons, List.drop_zero, List.take_succ_cons, List.take_zero, splice, List.all_cons, List.all_nil, AV.one, Bool.and_true, Bool.and_self, and_self, if_true, if_false, reduceCtorEq, Bool.not_true, Bool.not_false, Bool.true_and, Bool.false_and, VT.enc, htm, h00, hret, hnor, h.box, eq44, ne44] at hq
  exact hq.symm
theorem cc_nil {call : CallFn} {n : Nat} {H : Heap} {id : Nat} (h : BNil H id) : abody E call n Tryz.f74 (Tryz.f74.body.get!) [.ptr id 0] H = some (.ret (.tup []), H.set id (.box 46 [.ptr id 0, .v (.slice none 0 0)])) := by
  rw [abody_K]
  obtain ⟨tm0, htm, h00, hfr⟩ : ∃ tm0 : List AV, tm0.length = 20 ∧ tm0.getD 0 (.v undef) = .ptr id 0 ∧ aframe E Tryz.f74 [.ptr id 0] H = ⟨tm0, [], H⟩ := ⟨_, rfl, rfl, rfl⟩
  rw [hfr]
  obtain ⟨fin, hfin, hret, hnor⟩ : ∃ fin, fin = afin E call n Tryz.f74 ∧ (∀ tm H, fin (some (.ret, ⟨tm, [], H⟩)) = some (.ret (.tup []), H)) ∧ ∀ tm H, fin (some (.normal, ⟨tm, [], H⟩)) = some (.ret (.tup []), H) := ⟨_, rfl, fun _ _ => rfl, fun _ _ => rfl⟩
  rw [← hfin]
  generalize hq : aK E call n fin [] (acode E call n (Tryz.f74.body.get!) ⟨tm0, [], H⟩) = q
  simp [Tryz.f74] at hq
  have hb : H[id]? = some (.box 46 [.v (.pointer none), .v (.slice none 0 0)]) := h
  simp only [kops_nil, kops_plain, kops_if, kstep_val, kstep_skip, kstep_call, kret_ret, kguard_tt, kguard_ff, kguard_tf, kguard_ft, kguard_un, kone_plain, koneS_val, koneS_skip, koneS_call, koneR_ret, aK_seq, aK_block, aK_region, aK_skip, aK_exit, aK_ret, aK_loop, aK_seq_n, aK_seq_e, aK_seq_r, aK_seq_p, aK_blk_n, aK_blk_e, aK_blk_r, aK_blk_p, aK_nil_n, aK_nil_e, aK_nil_r, aK_nil_p, aK_cond, abr_true, abr_false, astep_call, aret_ret, aret_pan, astep_dfr, afin_ret, afin_normal, afin_pan, oload_p, oloadO_box, oload_ep, aload_eq, oload1_one, oload1_agg, ostore_p, ostoreO_box, astore_eq, ostore1_some, cells_int, cells_bool, cells_string, cells_sl, cells_asl, cells_ptr, cells_mp, cells_agg, cells_ifc, cells_fn, cells_slice, cells_nilIface, cells_pointer, ofield_ptr, ofield_ep, aop_field, aop_nilCheck, onil_ptr, aop_extract, oext_tup, aop_makeFunc, aop_alloc', oalloc_some, aop_panic, opan_ifc, cond_bool, cond_int, cond_str, obin_seq, obin_sne, oc_lss, oc_leq, oc_gtr, oc_geq, oc_eql, oc_neq, oa_add, oa_sub, oa_mul, olen_str, tyL, tyA, tyS, tyU, tyF, aop_lookup, aop_update, aop_makeMap, aop_un, oun_not, aops_if, aguard_tt, aguard_ff, aguard_tf, aguard_ft, aguard_un, gslot, gval_some, aop_pick, opick_bool, cond_true, cond_false, List.getElem?_toArray, List.getElem?_cons_succ, List.getElem?_cons_zero, Option.bind_some, goInt, conv, convA, conv1, List.toList_toArray, Option.get!_some, ne_eq, not_false_eq_true, decide_false, decide_true, Nat.reduceEqDiff, Nat.reduceLT, Nat.reduceAdd, Nat.reduceLeDiff, Option.map_some, List.map_cons, List.map_nil, aops_nil, aops_plain, astep_val, astep_skip, astep_pan, putA_some, putA_none, aval_tmp, aval_const, aval_global, aval_func, aop_move, aop_assign, aop_box, obox_some, aop_fieldAddr, aop_load, aop_store, aop_bin, aop_call, aop_len, aop_max, omax_int, List.length_set, getD_set_self, getD_set_ne, List.length_cons, List.length_nil, List.nil_append, List.cons_append, List.set_cons_zero, List.set_cons_succ, Nat.zero_add, Nat.add_zero, List.drop_succ_cons, List.drop_zero, List.take_succ_cons, List.take_zero, splice, List.all_cons, List.all_nil, AV.one, Bool.and_true, Bool.and_self, and_self, if_true, if_false, reduceCtorEq, Bool.not_true, Bool.not_false, Bool.true_and, Bool.false_and, VT.enc, htm, h00, hret, hnor, hb, eq44n, aop_conv, cv44 hb (by simp : 0 < 2), cv117 hb, E111] at hq
  exact hq.symm
end Go.AI.Jx
end
section
set_option linter.all false
set_option maxRecDepth 100000
namespace Go.AI.Jx
open Go Go.Proofs

theorem ac_str {H : Heap} {t : ByteArray} : appendCells H (.v (.string t)) = some (t.size, bytesAV t) := rfl
theorem ac_one {H : Heap} {b : UInt8} : appendCells H (.sl 1 [.v (.int .u8 b.toNat)]) = some ((⟨#[b]⟩ : ByteArray).size, bytesAV ⟨#[b]⟩) := rfl
theorem or_str {t : ByteArray} {row : Nat} : otherRow (.v (.string t)) row = true := rfl
theorem or_sl {n row : Nat} {cs : List AV} : otherRow (.sl n cs) row = true := rfl
theorem bs1 {ρ : Operand → AV} {dst : Option Tmp} {ty : TypeId} {pos : String} {after : Array Edge} {gd : Option (Nat × Bool)} {H : Heap} {tt : Tmp} {n : Int} (h : ρ (.tmp tt) = .v (.int .u8 n)) :
    aop E ρ ⟨dst, .buildSlice 30 1 #[(0, .tmp tt)], ty, pos, after, gd⟩ H = some (.val (.sl 1 [.v (.int .u8 n)]), H) := by
  have h1 : E.P.underlying 30 = some (.slice 5) := by kernel_rfl
  have h2 : sizeT E.P 5 = some 1 := by kernel_rfl
  have h3 : zeroT E.P 5 = some (.int .u8 0) := by kernel_rfl
  have h4 : byteT E.P 5 = true := by kernel_rfl
  simp [aop, h1, h2, h3, h, conv, convA, conv1, AV.cells?, repeatCells, afill, splice, Region.isConst]

theorem ws_at {call : CallFn} {n : Nat} {H : Heap} {id row : Nat} {s t : ByteArray} (h : BAt H id row s) (hs : s.size + t.size ≤ 2 ^ 46) (h74 : ∀ H row s, BAt H id row s → call 74 [.ptr id 0] H = some (.ret (.tup []), H)) :
    abody E call n Tryz.f37 (Tryz.f37.body.get!) [.ptr id 0, .v (.string t)] H = some (.ret (.tup [.v (.int .i64 t.size), .v .nilIface]), bput H id row (s ++ t)) := by
  rw [abody_K]
  obtain ⟨tm0, htm, h00, h01, hfr⟩ : ∃ tm0 : List AV, tm0.length = 19 ∧ tm0.getD 0 (.v undef) = .ptr id 0 ∧ tm0.getD 1 (.v undef) = .v (.string t) ∧ aframe E Tryz.f37 [.ptr id 0, .v (.string t)] H = ⟨tm0, [], H⟩ := ⟨_, rfl, rfl, rfl, rfl⟩
  rw [hfr]
  obtain ⟨fin, hfin, hret, hnor⟩ : ∃ fin, fin = afin E call n Tryz.f37 ∧ (∀ tm H, fin (some (.ret, ⟨tm, [], H⟩)) = some (.ret (.tup [tm.getD 4 (.v undef), tm.getD 5 (.v undef)]), H)) ∧ ∀ tm H, fin (some (.normal, ⟨tm, [], H⟩)) = some (.ret (.tup [tm.getD 4 (.v undef), tm.getD 5 (.v undef)]), H) := ⟨_, rfl, fun _ _ => rfl, fun _ _ => rfl⟩
  rw [← hfin]
  generalize hq : aK E call n fin [] (acode E call n (Tryz.f37.body.get!) ⟨tm0, [], H⟩) = q
  simp [Tryz.f37] at hq
  have c74 := h74 H row s h
  have hid := h.lt.1
  have hn := h.ne
  have hb2 : ∀ o, (H.set row o)[id]? = some (.box 46 [.ptr id 0, .asl row s.size]) := fun o => by rw [List.getElem?_set_ne (Ne.symm hn)]; exact h.box
  simp only [kops_nil, kops_plain, kops_if, kstep_val, kstep_skip, kstep_call, kret_ret, kguard_tt, kguard_ff, kguard_tf, kguard_ft, kguard_un, kone_plain, koneS_val, koneS_skip, koneS_call, koneR_ret, aK_seq, aK_block, aK_region, aK_skip, aK_exit, aK_ret, aK_loop, aK_seq_n, aK_seq_e, aK_seq_r, aK_seq_p, aK_blk_n, aK_blk_e, aK_blk_r, aK_blk_p, aK_nil_n, aK_nil_e, aK_nil_r, aK_nil_p, aK_cond, abr_true, abr_false, astep_call, aret_ret, aret_pan, astep_dfr, afin_ret, afin_normal, afin_pan, oload_p, oloadO_box, oload_ep, aload_eq, oload1_one, oload1_agg, ostore_p, ostoreO_box, astore_eq, ostore1_some, cells_int, cells_bool, cells_string, cells_sl, cells_asl, cells_ptr, cells_mp, cells_agg, cells_ifc, cells_fn, cells_slice, cells_nilIface, cells_pointer, ofield_ptr, ofield_ep, aop_field, aop_nilCheck, onil_ptr, aop_extract, oext_tup, aop_makeFunc, aop_alloc', oalloc_some, aop_panic, opan_ifc, cond_bool, cond_int, cond_str, obin_seq, obin_sne, oc_lss, oc_leq, oc_gtr, oc_geq, oc_eql, oc_neq, oa_add, oa_sub, oa_mul, olen_str, tyL, tyA, tyS, tyU, tyF, aop_lookup, aop_update, aop_makeMap, aop_un, oun_not, aops_if, aguard_tt, aguard_ff, aguard_tf, aguard_ft, aguard_un, gslot, gval_some, aop_pick, opick_bool, cond_true, cond_false, List.getElem?_toArray, List.getElem?_cons_succ, List.getElem?_cons_zero, Option.bind_some, goInt, conv, convA, conv1, List.toList_toArray, Option.get!_some, ne_eq, not_false_eq_true, decide_false, decide_true, Nat.reduceEqDiff, Nat.reduceLT, Nat.reduceAdd, Nat.reduceLeDiff, Option.map_some, List.map_cons, List.map_nil, aops_nil, aops_plain, astep_val, astep_skip, astep_pan, putA_some, putA_none, aval_tmp, aval_const, aval_global, aval_func, aop_move, aop_assign, aop_box, obox_some, aop_fieldAddr, aop_load, aop_store, aop_bin, aop_call, aop_len, aop_max, omax_int, List.length_set, getD_set_self, getD_set_ne, List.length_cons, List.length_nil, List.nil_append, List.cons_append, List.set_cons_zero, List.set_cons_succ, Nat.zero_add, Nat.add_zero, List.drop_succ_cons, List.drop_zero, List.take_succ_cons, List.take_zero, splice, List.all_cons, List.all_nil, AV.one, Bool.and_true, Bool.and_self, and_self, if_true, if_false, reduceCtorEq, Bool.not_true, Bool.not_false, Bool.true_and, Bool.false_and, VT.enc, htm, h00, h01, hret, hnor, ocall_fn code74, c74, h.box, aop_app, app_str (H := H) (s := s) (t := t) (row := row) appT9 ac_str or_str h.arr hs, hb2] at hq
  rw [← hq]
  unfold bput
  rw [List.set_comm _ _ (Ne.symm hn)]
theorem ws_nil {call : CallFn} {n : Nat} {H : Heap} {id : Nat} {t : ByteArray} (h : BNil H id) (h0 : t.size ≠ 0) (hs : t.size ≤ 2 ^ 46) (h74 : ∀ H, BNil H id → call 74 [.ptr id 0] H = some (.ret (.tup []), H.set id (.box 46 [.ptr id 0, .v (.slice none 0 0)]))) :
    abody E call n Tryz.f37 (Tryz.f37.body.get!) [.ptr id 0, .v (.string t)] H = some (.ret (.tup [.v (.int .i64 t.size), .v .nilIface]), bnil H id t) := by
  rw [abody_K]
  obtain ⟨tm0, htm, h00, h01, hfr⟩ : ∃ tm0 : List AV, tm0.length = 19 ∧ tm0.getD 0 (.v undef) = .ptr id 0 ∧ tm0.getD 1 (.v undef) = .v (.string t) ∧ aframe E Tryz.f37 [.ptr id 0, .v (.string t)] H = ⟨tm0, [], H⟩ := ⟨_, rfl, rfl, rfl, rfl⟩
  rw [hfr]
  obtain ⟨fin, hfin, hret, hnor⟩ : ∃ fin, fin = afin E call n Tryz.f37 ∧ (∀ tm H, fin (some (.ret, ⟨tm, [], H⟩)) = some (.ret (.tup [tm.getD 4 (.v undef), tm.getD 5 (.v undef)]), H)) ∧ ∀ tm H, fin (some (.normal, ⟨tm, [], H⟩)) = some (.ret (.tup [tm.getD 4 (.v undef), tm.getD 5 (.v undef)]), H) := ⟨_, rfl, fun _ _ => rfl, fun _ _ => rfl⟩
  rw [← hfin]
  generalize hq : aK E call n fin [] (acode E call n (Tryz.f37.body.get!) ⟨tm0, [], H⟩) = q
  simp [Tryz.f37] at hq
  have c74 := h74 H h
  have hb : H[id]? = some (.box 46 [.v (.pointer none), .v (.slice none 0 0)]) := h
  have hid : id < H.length := (List.getElem?_eq_some_iff.1 hb).1
  have hb1 : ∀ o, (H.set id o)[id]? = some o := fun o => List.getElem?_set_self hid
  have hb2 : ∀ o o', (H.set id o ++ [o'])[id]? = some o := fun o o' => by rw [List.getElem?_append_left (by simpa using hid), List.getElem?_set_self hid]
  have hset : ∀ o o' o2, (H.set id o ++ [o']).set id o2 = H.set id o2 ++ [o'] := fun o o' o2 => by rw [List.set_append_left _ _ (by simpa using hid), List.set_set]
  simp only [kops_nil, kops_plain, kops_if, kstep_val, kstep_skip, kstep_call, kret_ret, kguard_tt, kguard_ff, kguard_tf, kguard_ft, kguard_un, kone_plain, koneS_val, koneS_skip, koneS_call, koneR_ret, aK_seq, aK_block, aK_region, aK_skip, aK_exit, aK_ret, aK_loop, aK_seq_n, aK_seq_e, aK_seq_r, aK_seq_p, aK_blk_n, aK_blk_e, aK_blk_r, aK_blk_p, aK_nil_n, aK_nil_e, aK_nil_r, aK_nil_p, aK_cond, abr_true, abr_false, astep_call, aret_ret, aret_pan, astep_dfr, afin_ret, afin_normal, afin_pan, oload_p, oloadO_box, oload_ep, aload_eq, oload1_one, oload1_agg, ostore_p, ostoreO_box, astore_eq, ostore1_some, cells_int, cells_bool, cells_string, cells_sl, cells_asl, cells_ptr, cells_mp, cells_agg, cells_ifc, cells_fn, cells_slice, cells_nilIface, cells_pointer, ofield_ptr, ofield_ep, aop_field, aop_nilCheck, onil_ptr, aop_extract, oext_tup, aop_makeFunc, aop_alloc', oalloc_some, aop_panic, opan_ifc, cond_bool, cond_int, cond_str, obin_seq, obin_sne, oc_lss, oc_leq, oc_gtr, oc_geq, oc_eql, oc_neq, oa_add, oa_sub, oa_mul, olen_str, tyL, tyA, tyS, tyU, tyF, aop_lookup, aop_update, aop_makeMap, aop_un, oun_not, aops_if, aguard_tt, aguard_ff, aguard_tf, aguard_ft, aguard_un, gslot, gval_some, aop_pick, opick_bool, cond_true, cond_false, List.getElem?_toArray, List.getElem?_cons_succ, List.getElem?_cons_zero, Option.bind_some, goInt, conv, convA, conv1, List.toList_toArray, Option.get!_some, ne_eq, not_false_eq_true, decide_false, decide_true, Nat.reduceEqDiff, Nat.reduceLT, Nat.reduceAdd, Nat.reduceLeDiff, Option.map_some, List.map_cons, List.map_nil, aops_nil, aops_plain, astep_val, astep_skip, astep_pan, putA_some, putA_none, aval_tmp, aval_const, aval_global, aval_func, aop_move, aop_assign, aop_box, obox_some, aop_fieldAddr, aop_load, aop_store, aop_bin, aop_call, aop_len, aop_max, omax_int, List.length_set, getD_set_self, getD_set_ne, List.length_cons, List.length_nil, List.nil_append, List.cons_append, List.set_cons_zero, List.set_cons_succ, Nat.zero_add, Nat.add_zero, List.drop_succ_cons, List.drop_zero, List.take_succ_cons, List.take_zero, splice, List.all_cons, List.all_nil, AV.one, Bool.and_true, Bool.and_self, and_self, if_true, if_false, reduceCtorEq, Bool.not_true, Bool.not_false, Bool.true_and, Bool.false_and, VT.enc, htm, h00, h01, hret, hnor, ocall_fn code74, c74, hb1, hb2, hset, aop_app, app_nil (H := H.set id (.box 46 [.ptr id 0, .v (.slice none 0 0)])) (t := t) appT9 ac_str h0 hs] at hq
  rw [← hq]
  rfl
theorem wb_at {call : CallFn} {n : Nat} {H : Heap} {id row : Nat} {s : ByteArray} {b : UInt8} (h : BAt H id row s) (hs : s.size + 1 ≤ 2 ^ 46) (h74 : ∀ H row s, BAt H id row s → call 74 [.ptr id 0] H = some (.ret (.tup []), H)) :
    abody E call n Tryz.f43 (Tryz.f43.body.get!) [.ptr id 0, .v (.int .u8 b.toNat)] H = some (.ret (.v .nilIface), bput H id row (s ++ ⟨#[b]⟩)) := by
  rw [abody_K]
  obtain ⟨tm0, htm, h00, h01, hfr⟩ : ∃ tm0 : List AV, tm0.length = 17 ∧ tm0.getD 0 (.v undef) = .ptr id 0 ∧ tm0.getD 1 (.v undef) = .v (.int .u8 b.toNat) ∧ aframe E Tryz.f43 [.ptr id 0, .v (.int .u8 b.toNat)] H = ⟨tm0, [], H⟩ := ⟨_, rfl, rfl, rfl, rfl⟩
  rw [hfr]
  obtain ⟨fin, hfin, hret, hnor⟩ : ∃ fin, fin = afin E call n Tryz.f43 ∧ (∀ tm H, fin (some (.ret, ⟨tm, [], H⟩)) = some (.ret (tm.getD 4 (.v undef)), H)) ∧ ∀ tm H, fin (some (.normal, ⟨tm, [], H⟩)) = some (.ret (tm.getD 4 (.v undef)), H) := ⟨_, rfl, fun _ _ => rfl, fun _ _ => rfl⟩
  rw [← hfin]
  generalize hq : aK E call n fin [] (acode E call n (Tryz.f43.body.get!) ⟨tm0, [], H⟩) = q
  simp [Tryz.f43] at hq
  have c74 := h74 H row s h
  have hid := h.lt.1
  have hn := h.ne
  have hb2 : ∀ o, (H.set row o)[id]? = some (.box 46 [.ptr id 0, .asl row s.size]) := fun o => by rw [List.getElem?_set_ne (Ne.symm hn)]; exact h.box
  simp only [kops_nil, kops_plain, kops_if, kstep_val, kstep_skip, kstep_call, kret_ret, kguard_tt, kguard_ff, kguard_tf, kguard_ft, kguard_un, kone_plain, koneS_val, koneS_skip, koneS_call, koneR_ret, aK_seq, aK_block, aK_region, aK_skip, aK_exit, aK_ret, aK_loop, aK_seq_n, aK_seq_e, aK_seq_r, aK_seq_p, aK_blk_n, aK_blk_e, aK_blk_r, aK_blk_p, aK_nil_n, aK_nil_e, aK_nil_r, aK_nil_p, aK_cond, abr_true, abr_false, astep_call, aret_ret, aret_pan, astep_dfr, afin_ret, afin_normal, afin_pan, oload_p, oloadO_box, oload_ep, aload_eq, oload1_one, oload1_agg, ostore_p, ostoreO_box, astore_eq, ostore1_some, cells_int, cells_bool, cells_string, cells_sl, cells_asl, cells_ptr, cells_mp, cells_agg, cells_ifc, cells_fn, cells_slice, cells_nilIface, cells_pointer, ofield_ptr, ofield_ep, aop_field, aop_nilCheck, onil_ptr, aop_extract, oext_tup, aop_makeFunc, aop_alloc', oalloc_some, aop_panic, opan_ifc, cond_bool, cond_int, cond_str, obin_seq, obin_sne, oc_lss, oc_leq, oc_gtr, oc_geq, oc_eql, oc_neq, oa_add, oa_sub, oa_mul, olen_str, tyL, tyA, tyS, tyU, tyF, aop_lookup, aop_update, aop_makeMap, aop_un, oun_not, aops_if, aguard_tt, aguard_ff, aguard_tf, aguard_ft, aguard_un, gslot, gval_some, aop_pick, opick_bool, cond_true, cond_false, List.getElem?_toArray, List.getElem?_cons_succ, List.getElem?_cons_zero, Option.bind_some, goInt, conv, convA, conv1, List.toList_toArray, Option.get!_some, ne_eq, not_false_eq_true, decide_false, decide_true, Nat.reduceEqDiff, Nat.reduceLT, Nat.reduceAdd, Nat.reduceLeDiff, Option.map_some, List.map_cons, List.map_nil, aops_nil, aops_plain, astep_val, astep_skip, astep_pan, putA_some, putA_none, aval_tmp, aval_const, aval_global, aval_func, aop_move, aop_assign, aop_box, obox_some, aop_fieldAddr, aop_load, aop_store, aop_bin, aop_call, aop_len, aop_max, omax_int, List.length_set, getD_set_self, getD_set_ne, List.length_cons, List.length_nil, List.nil_append, List.cons_append, List.set_cons_zero, List.set_cons_succ, Nat.zero_add, Nat.add_zero, List.drop_succ_cons, List.drop_zero, List.take_succ_cons, List.take_zero, splice, List.all_cons, List.all_nil, AV.one, Bool.and_true, Bool.and_self, and_self, if_true, if_false, reduceCtorEq, Bool.not_true, Bool.not_false, Bool.true_and, Bool.false_and, VT.enc, htm, h00, h01, hret, hnor, ocall_fn code74, c74, h.box, aop_app, bs1 (n := b.toNat), app_str (H := H) (s := s) (t := ⟨#[b]⟩) (row := row) appT30 ac_one or_sl h.arr hs, hb2] at hq
  rw [← hq]
  unfold bput
  rw [List.set_comm _ _ (Ne.symm hn)]
theorem len_at {call : CallFn} {n : Nat} {H : Heap} {id row : Nat} {s : ByteArray} (h : BAt H id row s) : abody E call n Tryz.f23 (Tryz.f23.body.get!) [.ptr id 0] H = some (.ret (.v (.int .i64 s.size)), H) := by
  rw [abody_K]
  obtain ⟨tm0, htm, h00, hfr⟩ : ∃ tm0 : List AV, tm0.length = 8 ∧ tm0.getD 0 (.v undef) = .ptr id 0 ∧ aframe E Tryz.f23 [.ptr id 0] H = ⟨tm0, [], H⟩ := ⟨_, rfl, rfl, rfl⟩
  rw [hfr]
  obtain ⟨fin, hfin, hret, hnor⟩ : ∃ fin, fin = afin E call n Tryz.f23 ∧ (∀ tm H, fin (some (.ret, ⟨tm, [], H⟩)) = some (.ret (tm.getD 2 (.v undef)), H)) ∧ ∀ tm H, fin (some (.normal, ⟨tm, [], H⟩)) = some (.ret (tm.getD 2 (.v undef)), H) := ⟨_, rfl, fun _ _ => rfl, fun _ _ => rfl⟩
  rw [← hfin]
  generalize hq : aK E call n fin [] (acode E call n (Tryz.f23.body.get!) ⟨tm0, [], H⟩) = q
  simp [Tryz.f23] at hq
  simp only [kops_nil, kops_plain, kops_if, kstep_val, kstep_skip, kstep_call, kret_ret, kguard_tt, kguard_ff, kguard_tf, kguard_ft, kguard_un, kone_plain, koneS_val, koneS_skip, koneS_call, koneR_ret, aK_seq, aK_block, aK_region, aK_skip, aK_exit, aK_ret, aK_loop, aK_seq_n, aK_seq_e, aK_seq_r, aK_seq_p, aK_blk_n, aK_blk_e, aK_blk_r, aK_blk_p, aK_nil_n, aK_nil_e, aK_nil_r, aK_nil_p, aK_cond, abr_true, abr_false, astep_call, aret_ret, aret_pan, astep_dfr, afin_ret, afin_normal, afin_pan, oload_p, oloadO_box, oload_ep, aload_eq, oload1_one, oload1_agg, ostore_p, ostoreO_box, astore_eq, ostore1_some, cells_int, cells_bool, cells_string, cells_sl, cells_asl, cells_ptr, cells_mp, cells_agg, cells_ifc, cells_fn, cells_slice, cells_nilIface, cells_pointer, ofield_ptr, ofield_ep, aop_field, aop_nilCheck, onil_ptr, aop_extract, oext_tup, aop_makeFunc, aop_alloc', oalloc_some, aop_panic, opan_ifc, cond_bool, cond_int, cond_str, obin_seq, obin_sne, oc_lss, oc_leq, oc_gtr, oc_geq, oc_eql, oc_neq, oa_add, oa_sub, oa_mul, olen_str, tyL, tyA, tyS, tyU, tyF, aop_lookup, aop_update, aop_makeMap, aop_un, oun_not, aops_if, aguard_tt, aguard_ff, aguard_tf, aguard_ft, aguard_un, gslot, gval_some, aop_pick, opick_bool, cond_true, cond_false, List.getElem?_toArray, List.getElem?_cons_succ, List.getElem?_cons_zero, Option.bind_some, goInt, conv, convA, conv1, List.toList_toArray, Option.get!_some, ne_eq, not_false_eq_true, decide_false, decide_true, Nat.reduceEqDiff, Nat.reduceLT, Nat.reduceAdd, Nat.reduceLeDiff, Option.map_some, List.map_cons, List.map_nil, aops_nil, aops_plain, astep_val, astep_skip, astep_pan, putA_some, putA_none, aval_tmp, aval_const, aval_global, aval_func, aop_move, aop_assign, aop_box, obox_some, aop_fieldAddr, aop_load, aop_store, aop_bin, aop_call, aop_len, aop_max, omax_int, List.length_set, getD_set_self, getD_set_ne, List.length_cons, List.length_nil, List.nil_append, List.cons_append, List.set_cons_zero, List.set_cons_succ, Nat.zero_add, Nat.add_zero, List.drop_succ_cons, List.drop_zero, List.take_succ_cons, List.take_zero, splice, List.all_cons, List.all_nil, AV.one, Bool.and_true, Bool.and_self, and_self, if_true, if_false, reduceCtorEq, Bool.not_true, Bool.not_false, Bool.true_and, Bool.false_and, VT.enc, htm, h00, hret, hnor, h.box] at hq
  exact hq.symm
end Go.AI.Jx
end
section
set_option linter.all false
set_option maxRecDepth 100000
namespace Go.AI.Jx
open Go Go.Proofs
theorem D24_1 : DrawMid E ((reg 1 (Tryz.f24.body.get!)).get!) 10 14 := ⟨by kernel_rfl, by kernel_rfl, by kernel_rfl, by kernel_rfl, by kernel_rfl, by kernel_rfl⟩

section
variable {H : Heap} {ρ : Operand → AV} {dst : Option Tmp} {ty t : TypeId} {pos : String} {after : Array Edge} {gd : Option (Nat × Bool)} {x y : Operand} {row : Nat} {s : ByteArray}
def oSD (H : Heap) : AV → Option (ARes × Heap)
        | .asl id (n + 1) => match H[id]? with
          | some (.arr _ n' _ _) => if n' = n + 1 then some (.val (.ap id (n + 1) 0), H) else none
          | _ => none
        | .v (.slice none _ _) => some (.val (.v (.pointer none)), H)
        | _ => none
theorem aop_sd : aop E ρ ⟨dst, .call { callee := .builtin .unsafeSliceData, args := #[x], argTypes := #[t] }, ty, pos, after, gd⟩ H = oSD H (ρ x) := rfl
def oUS (P : Program) (H : Heap) (pt : TypeId) (x k : AV) : Option (ARes × Heap) := match x, k.un with
        | .ap id n 0, some (.int .i64 m) => match H[id]?, P.underlying pt with
          | some (.arr e n' _ cs), some (.pointer u) => match byteCells cs with
            | some bs => if u = e ∧ n' = n ∧ m = n ∧ 0 < n ∧ m ≤ 9223372036854775807 ∧ P.cellsOf e = 1 ∧ sizeT P e = some 1 ∧ bs.length = n then
                some (.val (.v (.string ⟨bs.toArray⟩)), H.set id (.arr e n true cs)) else none
            | none => none
          | _, _ => none
        | .v (.pointer none), some (.int .i64 0) => some (.val (.v (.string .empty)), H)
        | _, _ => none
theorem aop_us {t2 : TypeId} : aop E ρ ⟨dst, .call { callee := .builtin .unsafeString, args := #[x, y], argTypes := #[t, t2] }, ty, pos, after, gd⟩ H = oUS E.P H t (ρ x) (ρ y) := rfl
theorem osd {fz : Bool} (hr : H[row]? = some (.arr 5 s.size fz (bytesAV s))) (h0 : s.size ≠ 0) : oSD H (.asl row s.size) = some (.val (.ap row s.size 0), H) := by
  obtain ⟨n, hn⟩ : ∃ n, s.size = n + 1 := ⟨s.size - 1, by omega⟩
  rw [hn] at hr ⊢
  simp [oSD, hr]
theorem ous {fz : Bool} (hr : H[row]? = some (.arr 5 s.size fz (bytesAV s))) (h0 : s.size ≠ 0) (hs : s.size ≤ 2 ^ 46) : oUS E.P H 72 (.ap row s.size 0) (.v (.int .i64 s.size)) = some (.val (.v (.string s)), H.set row (.arr 5 s.size true (bytesAV s))) := by
  have h1 : E.P.underlying 72 = some (.pointer 5) := by kernel_rfl
  have h2 : E.P.cellsOf 5 = 1 := by kernel_rfl
  have h3 : sizeT E.P 5 = some 1 := by kernel_rfl
  have hl : s.data.toList.length = s.size := by simp
  simp only [oUS, AV.un, hr, h1, byteCells_bytes, h2, h3, hl]
  rw [if_pos (by simp; omega), mk_toList]
end
theorem string_at {call : CallFn} {n : Nat} {H : Heap} {id row : Nat} {s : ByteArray} (h : BAt H id row s) (h0 : s.size ≠ 0) (hs : s.size ≤ 2 ^ 46) :
    abody E call n Tryz.f24 (Tryz.f24.body.get!) [.ptr id 0] H = some (.ret (.v (.string s)), H.set row (.arr 5 s.size true (bytesAV s))) := by
  rw [abody_K]
  obtain ⟨tm0, htm, h00, hfr⟩ : ∃ tm0 : List AV, tm0.length = 14 ∧ tm0.getD 0 (.v undef) = .ptr id 0 ∧ aframe E Tryz.f24 [.ptr id 0] H = ⟨tm0, [], H⟩ := ⟨_, rfl, rfl, rfl⟩
  rw [hfr]
  obtain ⟨fin, hfin, hret, hnor⟩ : ∃ fin, fin = afin E call n Tryz.f24 ∧ (∀ tm H, fin (some (.ret, ⟨tm, [], H⟩)) = some (.ret (tm.getD 2 (.v undef)), H)) ∧ ∀ tm H, fin (some (.normal, ⟨tm, [], H⟩)) = some (.ret (tm.getD 2 (.v undef)), H) := ⟨_, rfl, fun _ _ => rfl, fun _ _ => rfl⟩
  rw [← hfin]
  generalize hq : aK E call n fin [] (acode E call n (Tryz.f24.body.get!) ⟨tm0, [], H⟩) = q
  simp [Tryz.f24] at hq
  have hb : (Code.skip = Code.skip) ↔ True := by simp
  repeat' (first
    | (simp only [cond_iff, guardT_iff, guardF_iff, aret_iff, kguardT_iff, kguardF_iff] at hq; rcases hq with ⟨hb, hq⟩ | ⟨hb, hq⟩)
    | (replace hq := draw_mid_q goodE sameE sameHE D24_1 1 hq (by simp only [List.length_set, htm]); simp [reg, Tryz.f24] at hq)
    | simp only [kops_nil, kops_plain, kops_if, kstep_val, kstep_skip, kstep_call, kret_ret, kguard_tt, kguard_ff, kguard_tf, kguard_ft, kguard_un, kone_plain, koneS_val, koneS_skip, koneS_call, koneR_ret, aK_seq, aK_block, aK_region, aK_skip, aK_exit, aK_ret, aK_loop, aK_seq_n, aK_seq_e, aK_seq_r, aK_seq_p, aK_blk_n, aK_blk_e, aK_blk_r, aK_blk_p, aK_nil_n, aK_nil_e, aK_nil_r, aK_nil_p, aK_cond, abr_true, abr_false, astep_call, aret_ret, aret_pan, astep_dfr, afin_ret, afin_normal, afin_pan, oload_p, oloadO_box, oload_ep, aload_eq, oload1_one, oload1_agg, ostore_p, ostoreO_box, astore_eq, ostore1_some, cells_int, cells_bool, cells_string, cells_sl, cells_asl, cells_ptr, cells_mp, cells_agg, cells_ifc, cells_fn, cells_slice, cells_nilIface, cells_pointer, ofield_ptr, ofield_ep, aop_field, aop_nilCheck, onil_ptr, aop_extract, oext_tup, aop_makeFunc, aop_alloc', oalloc_some, aop_panic, opan_ifc, cond_bool, cond_int, cond_str, obin_seq, obin_sne, oc_lss, oc_leq, oc_gtr, oc_geq, oc_eql, oc_neq, oa_add, oa_sub, oa_mul, olen_str, tyL, tyA, tyS, tyU, tyF, aop_lookup, aop_update, aop_makeMap, aop_un, oun_not, aops_if, aguard_tt, aguard_ff, aguard_tf, aguard_ft, aguard_un, gslot, gval_some, aop_pick, opick_bool, cond_true, cond_false, List.getElem?_toArray, List.getElem?_cons_succ, List.getElem?_cons_zero, Option.bind_some, goInt, conv, convA, conv1, List.toList_toArray, Option.get!_some, ne_eq, not_false_eq_true, decide_false, decide_true, Nat.reduceEqDiff, Nat.reduceLT, Nat.reduceAdd, Nat.reduceLeDiff, Option.map_some, List.map_cons, List.map_nil, aops_nil, aops_plain, astep_val, astep_skip, astep_pan, putA_some, putA_none, aval_tmp, aval_const, aval_global, aval_func, aop_move, aop_assign, aop_box, obox_some, aop_fieldAddr, aop_load, aop_store, aop_bin, aop_call, aop_len, aop_max, omax_int, List.length_set, getD_set_self, getD_set_ne, List.length_cons, List.length_nil, List.nil_append, List.cons_append, List.set_cons_zero, List.set_cons_succ, Nat.zero_add, Nat.add_zero, List.drop_succ_cons, List.drop_zero, List.take_succ_cons, List.take_zero, splice, List.all_cons, List.all_nil, AV.one, Bool.and_true, Bool.and_self, and_self, if_true, if_false, reduceCtorEq, Bool.not_true, Bool.not_false, Bool.true_and, Bool.false_and, VT.enc, hb, htm, h00, hret, hnor, h.box, aop_sd, aop_us, osd h.arr h0, ous h.arr h0 hs] at hq)
  exact hq.symm
end Go.AI.Jx
end
section
set_option linter.all false
set_option maxRecDepth 100000
namespace Go.AI
open Go
section
variable {E : Env} {call : CallFn} {f : FuncId} {fn : Func} {c : Code} {args : List AV} {H H' : Heap} {r R : AEnd}
theorem con_same (G : E.Good) (hm : E.P.follows .mixedOrders = true) (hc : CallOk E call) {n : Nat} (hcode : E.code f = some (fn, c)) (h : abody E call n fn c args H = some (R, H')) (hl : H'.length = H.length) : Con E f args H R H' := by
  have := con_body G hm hc hcode h
  have hg : gc H.length (R, H') = (R, H') := by
    unfold gc
    have : H'.take H.length = H' := List.take_of_length_le (by omega)
    split <;> simp [this]
  rw [hg] at this
  exact this
/-- New objects stay, where an old one leads to them, or the result. -/
theorem con_grown (G : E.Good) (hm : E.P.follows .mixedOrders = true) (hc : CallOk E call) {n : Nat} (hcode : E.code f = some (fn, c)) (h : abody E call n fn c args H = some (R, H')) (hg : (H'.take H.length).all (·.under H.length) = false) : Con E f args H R H' := by
  have := con_body G hm hc hcode h
  have hg : gc H.length (R, H') = (R, H') := by
    unfold gc
    simp only [hg, Bool.and_false]
    rfl
  rw [hg] at this
  exact this
/-- New objects are let go. -/
theorem con_gone (G : E.Good) (hm : E.P.follows .mixedOrders = true) (hc : CallOk E call) {n : Nat} {ext : Heap} (hcode : E.code f = some (fn, c)) (h : abody E call n fn c args H = some (R, H' ++ ext)) (hl : H'.length = H.length) (hO : OkH H') (hR : R.under H.length = true) : Con E f args H R H' := by
  have := con_body G hm hc hcode h
  have hg : gc H.length (R, H' ++ ext) = (R, H') := by
    unfold gc
    have : (H' ++ ext).take H.length = H' := by rw [← hl]; exact List.take_left
    rw [this]
    have hO' : H'.all (·.under H.length) = true := by rw [← hl]; exact hO
    simp [hR, hO']
  rw [hg] at this
  exact this

open Classical in
noncomputable def specR (R : List AV → Heap → AEnd → Heap → Prop) : Spec := fun args H =>
  if h : ∃ p : AEnd × Heap, R args H p.1 p.2 then some (Classical.choose h) else none
theorem specR_eq {R : List AV → Heap → AEnd → Heap → Prop} (hf : ∀ r2 H2, R args H r2 H2 → r2 = r ∧ H2 = H') (h : R args H r H') : specR R args H = some (r, H') := by
  have hx : ∃ p : AEnd × Heap, R args H p.1 p.2 := ⟨(r, H'), h⟩
  unfold specR
  rw [dif_pos hx]
  obtain ⟨h1, h2⟩ := hf _ _ (Classical.choose_spec hx)
  congr 1
  exact Prod.ext h1 h2
theorem specR_ok {R : List AV → Heap → AEnd → Heap → Prop} (h : ∀ args H r H', R args H r H' → Con E f args H r H') : SpecOk E f (specR R) := by
  intro args H r H' e
  unfold specR at e
  split at e
  · rename_i hx
    have := Classical.choose_spec hx
    simp only [Option.some.injEq] at e
    rw [e] at this
    exact h _ _ _ _ this
  · cases e
/-- A list of what is told. -/
def orcL (L : List (FuncId × Spec)) : Orc := fun f => (L.find? fun p => p.1 == f).map fun p => fun _ args H => p.2 args H
theorem orcL_ok {L : List (FuncId × Spec)} (h : ∀ p ∈ L, SpecOk E p.1 p.2) : OrcOk E (orcL L) := by
  intro f c e args H r H' he
  unfold orcL at e
  obtain ⟨p, hp, rfl⟩ := Option.map_eq_some_iff.1 e
  have h1 := List.find?_some hp
  have h2 := h p (List.mem_of_find?_eq_some hp)
  have : p.1 = f := by simpa using h1
  subst this
  exact h2 args H r H' he
theorem acall_orc {orc : Orc} {s : Spec} (h : orc f = some fun _ args H => s args H) {n : Nat} : acall E orc (n + 1) f args H = s args H := by
  unfold acall
  rw [h]
end
namespace Jx
open Go.Proofs

/-- Bytes, as a text. -/
def ba (l : List UInt8) : ByteArray := ⟨l.toArray⟩
theorem ba_append {l m : List UInt8} : ba l ++ ba m = ba (l ++ m) := by
  apply ByteArray.ext
  simp [ba]
theorem ba_size {l : List UInt8} : (ba l).size = l.length := by simp [ba, ByteArray.size]
theorem ba_data {l : List UInt8} : (ba l).data.toList = l := by simp [ba]
theorem ba_self {s : ByteArray} : ba s.data.toList = s := by
  apply ByteArray.ext
  simp [ba]
theorem ba_inj {l m : List UInt8} (h : ba l = ba m) : l = m := by
  rw [← ba_data (l := l), h, ba_data]
theorem BAt.noNil {H : Heap} {id row : Nat} {s : ByteArray} (h : BAt H id row s) (h' : BNil H id) : False := by
  have := h.box.symm.trans h'
  cases this

/-! ### What is told of a Builder's methods -/
def R74 (args : List AV) (H : Heap) (r : AEnd) (H' : Heap) : Prop := ∃ id, args = [.ptr id 0] ∧ r = .ret (.tup []) ∧ ((∃ row s, BAt H id row s ∧ H' = H) ∨ (BNil H id ∧ H' = H.set id (.box 46 [.ptr id 0, .v (.slice none 0 0)])))
theorem ok74 : SpecOk E 74 (specR R74) := by
  refine specR_ok fun args H r H' h => ?_
  obtain ⟨id, rfl, rfl, ⟨row, s, h, rfl⟩ | ⟨h, rfl⟩⟩ := h
  · exact con_same goodE mixed noCall_ok code74 (cc_at (n := 0) h) rfl
  · exact con_same goodE mixed noCall_ok code74 (cc_nil (n := 0) h) (by simp)
theorem s74_at {H : Heap} {id row : Nat} {s : ByteArray} (h : BAt H id row s) : specR R74 [.ptr id 0] H = some (.ret (.tup []), H) := by
  refine specR_eq (fun r2 H2 h2 => ?_) ⟨id, rfl, rfl, .inl ⟨row, s, h, rfl⟩⟩
  obtain ⟨id', e, rfl, ⟨_, _, _, rfl⟩ | ⟨h2, _⟩⟩ := h2
  · exact ⟨rfl, rfl⟩
  · cases e; exact (h.noNil h2).elim
theorem s74_nil {H : Heap} {id : Nat} (h : BNil H id) : specR R74 [.ptr id 0] H = some (.ret (.tup []), H.set id (.box 46 [.ptr id 0, .v (.slice none 0 0)])) := by
  refine specR_eq (fun r2 H2 h2 => ?_) ⟨id, rfl, rfl, .inr ⟨h, rfl⟩⟩
  obtain ⟨id', e, rfl, ⟨_, _, h2, _⟩ | ⟨_, rfl⟩⟩ := h2
  · cases e; exact (h2.noNil h).elim
  · cases e; exact ⟨rfl, rfl⟩

def R37 (args : List AV) (H : Heap) (r : AEnd) (H' : Heap) : Prop := ∃ id t, args = [.ptr id 0, .v (.string t)] ∧ r = .ret (.tup [.v (.int .i64 t.size), .v .nilIface]) ∧
  ((∃ row s, BAt H id row s ∧ s.size + t.size ≤ 2 ^ 46 ∧ H' = bput H id row (s ++ t)) ∨ (BNil H id ∧ t.size ≠ 0 ∧ t.size ≤ 2 ^ 46 ∧ H' = bnil H id t))
theorem call74 {c : CallFn} : (∀ H row s id, BAt H id row s → told 74 (specR R74) c 74 [.ptr id 0] H = some (.ret (.tup []), H)) ∧ ∀ H id, BNil H id → told 74 (specR R74) c 74 [.ptr id 0] H = some (.ret (.tup []), H.set id (.box 46 [.ptr id 0, .v (.slice none 0 0)])) :=
  ⟨fun H row s id h => by rw [told_self, s74_at h], fun H id h => by rw [told_self, s74_nil h]⟩
theorem tell74 : CallOk E (told 74 (specR R74) noCall) := told_ok ok74 noCall_ok
theorem bnil_grown {H : Heap} {id : Nat} {t : ByteArray} (h : BNil H id) : ((bnil H id t).take H.length).all (·.under H.length) = false := by
  have hid : id < H.length := (List.getElem?_eq_some_iff.1 h).1
  have : (bnil H id t).take H.length = H.set id (.box 46 [.ptr id 0, .asl H.length t.size]) := by
    unfold bnil
    have hl : (H.set id (.box 46 [.ptr id 0, .asl H.length t.size])).length = H.length := by simp
    rw [← hl, List.take_left' (by simp)]
  rw [this, List.all_eq_false]
  refine ⟨.box 46 [.ptr id 0, .asl H.length t.size], List.mem_of_getElem? (List.getElem?_set_self hid), ?_⟩
  simp [AObj.under, AV.underL, AV.under]
theorem ok37 : SpecOk E 37 (specR R37) := by
  refine specR_ok fun args H r H' h => ?_
  obtain ⟨id, t, rfl, rfl, ⟨row, s, h, hs, rfl⟩ | ⟨h, h0, hs, rfl⟩⟩ := h
  · exact con_same goodE mixed tell74 code37 (ws_at (n := 0) h hs fun H row s h => call74.1 H row s id h) bput_len
  · exact con_grown goodE mixed tell74 code37 (ws_nil (n := 0) h h0 hs fun H h => call74.2 H id h) (bnil_grown h)
theorem s37_at {H : Heap} {id row : Nat} {s t : ByteArray} (h : BAt H id row s) (hs : s.size + t.size ≤ 2 ^ 46) : specR R37 [.ptr id 0, .v (.string t)] H = some (.ret (.tup [.v (.int .i64 t.size), .v .nilIface]), bput H id row (s ++ t)) := by
  refine specR_eq (fun r2 H2 h2 => ?_) ⟨id, t, rfl, rfl, .inl ⟨row, s, h, hs, rfl⟩⟩
  obtain ⟨id', t', e, rfl, ⟨row', s', h2, _, rfl⟩ | ⟨h2, _⟩⟩ := h2
  · cases e; obtain ⟨rfl, rfl⟩ := h.uniq h2; exact ⟨rfl, rfl⟩
  · cases e; exact (h.noNil h2).elim
theorem s37_nil {H : Heap} {id : Nat} {t : ByteArray} (h : BNil H id) (h0 : t.size ≠ 0) (hs : t.size ≤ 2 ^ 46) : specR R37 [.ptr id 0, .v (.string t)] H = some (.ret (.tup [.v (.int .i64 t.size), .v .nilIface]), bnil H id t) := by
  refine specR_eq (fun r2 H2 h2 => ?_) ⟨id, t, rfl, rfl, .inr ⟨h, h0, hs, rfl⟩⟩
  obtain ⟨id', t', e, rfl, ⟨row', s', h2, _, _⟩ | ⟨_, _, _, rfl⟩⟩ := h2
  · cases e; exact (h2.noNil h).elim
  · cases e; exact ⟨rfl, rfl⟩

def R43 (args : List AV) (H : Heap) (r : AEnd) (H' : Heap) : Prop := ∃ id row s, ∃ b : UInt8, args = [.ptr id 0, .v (.int .u8 b.toNat)] ∧ r = .ret (.v .nilIface) ∧ BAt H id row s ∧ s.size + 1 ≤ 2 ^ 46 ∧ H' = bput H id row (s ++ ⟨#[b]⟩)
theorem ok43 : SpecOk E 43 (specR R43) := by
  refine specR_ok fun args H r H' h => ?_
  obtain ⟨id, row, s, b, rfl, rfl, h, hs, rfl⟩ := h
  exact con_same goodE mixed tell74 code43 (wb_at (n := 0) h hs fun H row s h => call74.1 H row s id h) bput_len
theorem s43_at {H : Heap} {id row : Nat} {s : ByteArray} {b : UInt8} (h : BAt H id row s) (hs : s.size + 1 ≤ 2 ^ 46) : specR R43 [.ptr id 0, .v (.int .u8 b.toNat)] H = some (.ret (.v .nilIface), bput H id row (s ++ ⟨#[b]⟩)) := by
  refine specR_eq (fun r2 H2 h2 => ?_) ⟨id, row, s, b, rfl, rfl, h, hs, rfl⟩
  obtain ⟨id', row', s', b', e, rfl, h2, _, rfl⟩ := h2
  simp only [List.cons.injEq, AV.ptr.injEq, AV.v.injEq, Value.int.injEq, true_and, and_true] at e
  obtain ⟨rfl, e⟩ := e
  have : b = b' := UInt8.toNat_inj.1 (by omega)
  subst this
  obtain ⟨rfl, rfl⟩ := h.uniq h2; exact ⟨rfl, rfl⟩

def R23 (args : List AV) (H : Heap) (r : AEnd) (H' : Heap) : Prop := ∃ id row s, args = [.ptr id 0] ∧ r = .ret (.v (.int .i64 s.size)) ∧ BAt H id row s ∧ H' = H
theorem ok23 : SpecOk E 23 (specR R23) := by
  refine specR_ok fun args H r H' h => ?_
  obtain ⟨id, row, s, rfl, rfl, h, rfl⟩ := h
  exact con_same goodE mixed noCall_ok code23 (len_at (n := 0) h) rfl
theorem s23_at {H : Heap} {id row : Nat} {s : ByteArray} (h : BAt H id row s) : specR R23 [.ptr id 0] H = some (.ret (.v (.int .i64 s.size)), H) := by
  refine specR_eq (fun r2 H2 h2 => ?_) ⟨id, row, s, rfl, rfl, h, rfl⟩
  obtain ⟨id', row', s', e, rfl, h2, rfl⟩ := h2
  cases e; obtain ⟨rfl, rfl⟩ := h.uniq h2; exact ⟨rfl, rfl⟩
def R24 (args : List AV) (H : Heap) (r : AEnd) (H' : Heap) : Prop := ∃ id row s, args = [.ptr id 0] ∧ r = .ret (.v (.string s)) ∧ BAt H id row s ∧ s.size ≠ 0 ∧ s.size ≤ 2 ^ 46 ∧ H' = H.set row (.arr 5 s.size true (bytesAV s))
theorem ok24 : SpecOk E 24 (specR R24) := by
  refine specR_ok fun args H r H' h => ?_
  obtain ⟨id, row, s, rfl, rfl, h, h0, hs, rfl⟩ := h
  exact con_same goodE mixed noCall_ok code24 (string_at (n := 0) h h0 hs) (by simp)
theorem s24_at {H : Heap} {id row : Nat} {s : ByteArray} (h : BAt H id row s) (h0 : s.size ≠ 0) (hs : s.size ≤ 2 ^ 46) : specR R24 [.ptr id 0] H = some (.ret (.v (.string s)), H.set row (.arr 5 s.size true (bytesAV s))) := by
  refine specR_eq (fun r2 H2 h2 => ?_) ⟨id, row, s, rfl, rfl, h, h0, hs, rfl⟩
  obtain ⟨id', row', s', e, rfl, h2, _, _, rfl⟩ := h2
  cases e; obtain ⟨rfl, rfl⟩ := h.uniq h2; exact ⟨rfl, rfl⟩
end Jx
end Go.AI
end
section
/- Contracts of Go's library at this program: out of the kit's shelf, in plain words (its tools lay-shelf.mjs, lay-plain.mjs). -/
namespace Go.Proofs
open Go.Shelf
def Tryz.lays196_ren : Go.Shelf.Ren := ⟨fun | 196 => 108 | 259 => 140 | n => n, fun | 9 => 9 | 4 => 4 | 3 => 3 | 5 => 5 | 12 => 12 | 119 => 138 | 0 => 0 | 46 => 69 | 139 => 141 | 138 => 140 | 53 => 25 | n => n, fun | 3 => 0 | 4 => 1 | n => n⟩
theorem Tryz.lays196 : Go.Proofs.Lays.n196 Tryz.prog Tryz.lays196_ren := {
  mixed := by kernel_rfl
  f196 := Tryz.func108.trans (congrArg some (by kernel_rfl))
  f259 := Tryz.func140.trans (congrArg some (by kernel_rfl))
  t0 := Tryz.underlying0
  a0 := Tryz.isAgg0
  z0 := Tryz.sizeOf0
  v0 := Tryz.zeroValue0
  t3 := Tryz.underlying3
  a3 := Tryz.isAgg3
  z3 := Tryz.sizeOf3
  v3 := Tryz.zeroValue3
  t4 := Tryz.underlying4
  a4 := Tryz.isAgg4
  z4 := Tryz.sizeOf4
  v4 := Tryz.zeroValue4
  t5 := Tryz.underlying5
  a5 := Tryz.isAgg5
  z5 := Tryz.sizeOf5
  v5 := Tryz.zeroValue5
  t9 := Tryz.underlying9
  a9 := Tryz.isAgg9
  z9 := Tryz.sizeOf9
  v9 := Tryz.zeroValue9
  t12 := Tryz.underlying12
  a12 := Tryz.isAgg12
  z12 := Tryz.sizeOf12
  v12 := Tryz.zeroValue12
  t46 := Tryz.underlying69
  a46 := Tryz.isAgg69
  z46 := Tryz.sizeOf69
  v46 := Tryz.zeroValue69
  t53 := Tryz.underlying25
  a53 := Tryz.isAgg25
  z53 := Tryz.sizeOf25
  v53 := Tryz.zeroValue25
  t119 := Tryz.underlying138
  a119 := Tryz.isAgg138
  z119 := Tryz.sizeOf138
  t138 := Tryz.underlying140
  a138 := Tryz.isAgg140
  z138 := Tryz.sizeOf140
  v138 := Tryz.zeroValue140
  t139 := Tryz.underlying141
  a139 := Tryz.isAgg141
  z139 := Tryz.sizeOf141
  v139 := Tryz.zeroValue141
  g3 := by kernel_rfl
  g4 := by kernel_rfl }
def Tryz.lays160_ren : Go.Shelf.Ren := ⟨fun | 160 => 124 | 232 => 154 | 231 => 80 | 227 => 81 | 234 => 155 | 233 => 82 | 236 => 156 | 235 => 83 | 228 => 116 | 271 => 175 | 151 => 118 | 197 => 117 | 120 => 182 | 152 => 149 | 260 => 148 | 137 => 120 | 119 => 151 | 224 => 166 | 225 => 167 | 217 => 150 | 266 => 168 | n => n, fun | 9 => 9 | 4 => 4 | 3 => 3 | 5 => 5 | 117 => 94 | 116 => 93 | 0 => 0 | 124 => 97 | 21 => 21 | 105 => 123 | 46 => 69 | 119 => 138 | 139 => 141 | 138 => 140 | n => n, fun | 3 => 0 | 4 => 1 | n => n⟩
theorem Tryz.lays160 : Go.Proofs.Lays.n160 Tryz.prog Tryz.lays160_ren := {
  mixed := by kernel_rfl
  f119 := Tryz.func151.trans (congrArg some (by kernel_rfl))
  f120 := Tryz.func182.trans (congrArg some (by kernel_rfl))
  f137 := Tryz.func120.trans (congrArg some (by kernel_rfl))
  f151 := Tryz.func118.trans (congrArg some (by kernel_rfl))
  f152 := Tryz.func149.trans (congrArg some (by kernel_rfl))
  f160 := Tryz.func124.trans (congrArg some (by kernel_rfl))
  f197 := Tryz.func117.trans (congrArg some (by kernel_rfl))
  f217 := Tryz.func150.trans (congrArg some (by kernel_rfl))
  f224 := Tryz.func166.trans (congrArg some (by kernel_rfl))
  f225 := Tryz.func167.trans (congrArg some (by kernel_rfl))
  f227 := Tryz.func81.trans (congrArg some (by kernel_rfl))
  f228 := Tryz.func116.trans (congrArg some (by kernel_rfl))
  f231 := Tryz.func80.trans (congrArg some (by kernel_rfl))
  f232 := Tryz.func154.trans (congrArg some (by kernel_rfl))
  f233 := Tryz.func82.trans (congrArg some (by kernel_rfl))
  f234 := Tryz.func155.trans (congrArg some (by kernel_rfl))
  f235 := Tryz.func83.trans (congrArg some (by kernel_rfl))
  f236 := Tryz.func156.trans (congrArg some (by kernel_rfl))
  f260 := Tryz.func148.trans (congrArg some (by kernel_rfl))
  f266 := Tryz.func168.trans (congrArg some (by kernel_rfl))
  f271 := Tryz.func175.trans (congrArg some (by kernel_rfl))
  t0 := Tryz.underlying0
  a0 := Tryz.isAgg0
  z0 := Tryz.sizeOf0
  v0 := Tryz.zeroValue0
  t3 := Tryz.underlying3
  a3 := Tryz.isAgg3
  z3 := Tryz.sizeOf3
  v3 := Tryz.zeroValue3
  t4 := Tryz.underlying4
  a4 := Tryz.isAgg4
  z4 := Tryz.sizeOf4
  v4 := Tryz.zeroValue4
  t5 := Tryz.underlying5
  a5 := Tryz.isAgg5
  z5 := Tryz.sizeOf5
  v5 := Tryz.zeroValue5
  t9 := Tryz.underlying9
  a9 := Tryz.isAgg9
  z9 := Tryz.sizeOf9
  v9 := Tryz.zeroValue9
  t21 := Tryz.underlying21
  a21 := Tryz.isAgg21
  z21 := Tryz.sizeOf21
  v21 := Tryz.zeroValue21
  t46 := Tryz.underlying69
  a46 := Tryz.isAgg69
  z46 := Tryz.sizeOf69
  v46 := Tryz.zeroValue69
  t105 := Tryz.underlying123
  a105 := Tryz.isAgg123
  z105 := Tryz.sizeOf123
  v105 := Tryz.zeroValue123
  t116 := Tryz.underlying93
  a116 := Tryz.isAgg93
  z116 := Tryz.sizeOf93
  t117 := Tryz.underlying94
  a117 := Tryz.isAgg94
  z117 := Tryz.sizeOf94
  v117 := Tryz.zeroValue94
  t119 := Tryz.underlying138
  a119 := Tryz.isAgg138
  z119 := Tryz.sizeOf138
  t124 := Tryz.underlying97
  a124 := Tryz.isAgg97
  z124 := Tryz.sizeOf97
  v124 := Tryz.zeroValue97
  t138 := Tryz.underlying140
  a138 := Tryz.isAgg140
  z138 := Tryz.sizeOf140
  v138 := Tryz.zeroValue140
  t139 := Tryz.underlying141
  a139 := Tryz.isAgg141
  z139 := Tryz.sizeOf141
  v139 := Tryz.zeroValue141
  g3 := by kernel_rfl
  g4 := by kernel_rfl }
def Tryz.lays161_ren : Go.Shelf.Ren := ⟨fun | 161 => 45 | 231 => 80 | 227 => 81 | 233 => 82 | 235 => 83 | 228 => 116 | 197 => 117 | 151 => 118 | 260 => 148 | 152 => 149 | 137 => 120 | 119 => 151 | 224 => 166 | 225 => 167 | 217 => 150 | 266 => 168 | n => n, fun | 9 => 9 | 4 => 4 | 3 => 3 | 5 => 5 | 117 => 94 | 116 => 93 | 0 => 0 | 124 => 97 | 105 => 123 | 21 => 21 | 119 => 138 | 46 => 69 | 139 => 141 | 138 => 140 | n => n, fun | 3 => 0 | 4 => 1 | n => n⟩
theorem Tryz.lays161 : Go.Proofs.Lays.n161 Tryz.prog Tryz.lays161_ren := {
  mixed := by kernel_rfl
  f119 := Tryz.func151.trans (congrArg some (by kernel_rfl))
  f137 := Tryz.func120.trans (congrArg some (by kernel_rfl))
  f151 := Tryz.func118.trans (congrArg some (by kernel_rfl))
  f152 := Tryz.func149.trans (congrArg some (by kernel_rfl))
  f161 := Tryz.func45.trans (congrArg some (by kernel_rfl))
  f197 := Tryz.func117.trans (congrArg some (by kernel_rfl))
  f217 := Tryz.func150.trans (congrArg some (by kernel_rfl))
  f224 := Tryz.func166.trans (congrArg some (by kernel_rfl))
  f225 := Tryz.func167.trans (congrArg some (by kernel_rfl))
  f227 := Tryz.func81.trans (congrArg some (by kernel_rfl))
  f228 := Tryz.func116.trans (congrArg some (by kernel_rfl))
  f231 := Tryz.func80.trans (congrArg some (by kernel_rfl))
  f233 := Tryz.func82.trans (congrArg some (by kernel_rfl))
  f235 := Tryz.func83.trans (congrArg some (by kernel_rfl))
  f260 := Tryz.func148.trans (congrArg some (by kernel_rfl))
  f266 := Tryz.func168.trans (congrArg some (by kernel_rfl))
  t0 := Tryz.underlying0
  a0 := Tryz.isAgg0
  z0 := Tryz.sizeOf0
  v0 := Tryz.zeroValue0
  t3 := Tryz.underlying3
  a3 := Tryz.isAgg3
  z3 := Tryz.sizeOf3
  v3 := Tryz.zeroValue3
  t4 := Tryz.underlying4
  a4 := Tryz.isAgg4
  z4 := Tryz.sizeOf4
  v4 := Tryz.zeroValue4
  t5 := Tryz.underlying5
  a5 := Tryz.isAgg5
  z5 := Tryz.sizeOf5
  v5 := Tryz.zeroValue5
  t9 := Tryz.underlying9
  a9 := Tryz.isAgg9
  z9 := Tryz.sizeOf9
  v9 := Tryz.zeroValue9
  t21 := Tryz.underlying21
  a21 := Tryz.isAgg21
  z21 := Tryz.sizeOf21
  v21 := Tryz.zeroValue21
  t46 := Tryz.underlying69
  a46 := Tryz.isAgg69
  z46 := Tryz.sizeOf69
  v46 := Tryz.zeroValue69
  t105 := Tryz.underlying123
  a105 := Tryz.isAgg123
  z105 := Tryz.sizeOf123
  v105 := Tryz.zeroValue123
  t116 := Tryz.underlying93
  a116 := Tryz.isAgg93
  z116 := Tryz.sizeOf93
  t117 := Tryz.underlying94
  a117 := Tryz.isAgg94
  z117 := Tryz.sizeOf94
  v117 := Tryz.zeroValue94
  t119 := Tryz.underlying138
  a119 := Tryz.isAgg138
  z119 := Tryz.sizeOf138
  t124 := Tryz.underlying97
  a124 := Tryz.isAgg97
  z124 := Tryz.sizeOf97
  v124 := Tryz.zeroValue97
  t138 := Tryz.underlying140
  a138 := Tryz.isAgg140
  z138 := Tryz.sizeOf140
  v138 := Tryz.zeroValue140
  t139 := Tryz.underlying141
  a139 := Tryz.isAgg141
  z139 := Tryz.sizeOf141
  v139 := Tryz.zeroValue141
  g3 := by kernel_rfl
  g4 := by kernel_rfl }
def Tryz.lays162_ren : Go.Shelf.Ren := ⟨fun | 162 => 158 | 232 => 154 | 227 => 81 | 234 => 155 | 236 => 156 | 228 => 116 | 271 => 175 | 151 => 118 | 120 => 182 | 197 => 117 | 152 => 149 | 260 => 148 | 137 => 120 | 119 => 151 | 224 => 166 | 225 => 167 | 217 => 150 | 266 => 168 | n => n, fun | 9 => 9 | 4 => 4 | 3 => 3 | 5 => 5 | 117 => 94 | 116 => 93 | 0 => 0 | 124 => 97 | 21 => 21 | 105 => 123 | 46 => 69 | 119 => 138 | 139 => 141 | 138 => 140 | n => n, fun | 3 => 0 | 4 => 1 | n => n⟩
theorem Tryz.lays162 : Go.Proofs.Lays.n162 Tryz.prog Tryz.lays162_ren := {
  mixed := by kernel_rfl
  f119 := Tryz.func151.trans (congrArg some (by kernel_rfl))
  f120 := Tryz.func182.trans (congrArg some (by kernel_rfl))
  f137 := Tryz.func120.trans (congrArg some (by kernel_rfl))
  f151 := Tryz.func118.trans (congrArg some (by kernel_rfl))
  f152 := Tryz.func149.trans (congrArg some (by kernel_rfl))
  f162 := Tryz.func158.trans (congrArg some (by kernel_rfl))
  f197 := Tryz.func117.trans (congrArg some (by kernel_rfl))
  f217 := Tryz.func150.trans (congrArg some (by kernel_rfl))
  f224 := Tryz.func166.trans (congrArg some (by kernel_rfl))
  f225 := Tryz.func167.trans (congrArg some (by kernel_rfl))
  f227 := Tryz.func81.trans (congrArg some (by kernel_rfl))
  f228 := Tryz.func116.trans (congrArg some (by kernel_rfl))
  f232 := Tryz.func154.trans (congrArg some (by kernel_rfl))
  f234 := Tryz.func155.trans (congrArg some (by kernel_rfl))
  f236 := Tryz.func156.trans (congrArg some (by kernel_rfl))
  f260 := Tryz.func148.trans (congrArg some (by kernel_rfl))
  f266 := Tryz.func168.trans (congrArg some (by kernel_rfl))
  f271 := Tryz.func175.trans (congrArg some (by kernel_rfl))
  t0 := Tryz.underlying0
  a0 := Tryz.isAgg0
  z0 := Tryz.sizeOf0
  v0 := Tryz.zeroValue0
  t3 := Tryz.underlying3
  a3 := Tryz.isAgg3
  z3 := Tryz.sizeOf3
  v3 := Tryz.zeroValue3
  t4 := Tryz.underlying4
  a4 := Tryz.isAgg4
  z4 := Tryz.sizeOf4
  v4 := Tryz.zeroValue4
  t5 := Tryz.underlying5
  a5 := Tryz.isAgg5
  z5 := Tryz.sizeOf5
  v5 := Tryz.zeroValue5
  t9 := Tryz.underlying9
  a9 := Tryz.isAgg9
  z9 := Tryz.sizeOf9
  v9 := Tryz.zeroValue9
  t21 := Tryz.underlying21
  a21 := Tryz.isAgg21
  z21 := Tryz.sizeOf21
  v21 := Tryz.zeroValue21
  t46 := Tryz.underlying69
  a46 := Tryz.isAgg69
  z46 := Tryz.sizeOf69
  v46 := Tryz.zeroValue69
  t105 := Tryz.underlying123
  a105 := Tryz.isAgg123
  z105 := Tryz.sizeOf123
  v105 := Tryz.zeroValue123
  t116 := Tryz.underlying93
  a116 := Tryz.isAgg93
  z116 := Tryz.sizeOf93
  t117 := Tryz.underlying94
  a117 := Tryz.isAgg94
  z117 := Tryz.sizeOf94
  v117 := Tryz.zeroValue94
  t119 := Tryz.underlying138
  a119 := Tryz.isAgg138
  z119 := Tryz.sizeOf138
  t124 := Tryz.underlying97
  a124 := Tryz.isAgg97
  z124 := Tryz.sizeOf97
  v124 := Tryz.zeroValue97
  t138 := Tryz.underlying140
  a138 := Tryz.isAgg140
  z138 := Tryz.sizeOf140
  v138 := Tryz.zeroValue140
  t139 := Tryz.underlying141
  a139 := Tryz.isAgg141
  z139 := Tryz.sizeOf141
  v139 := Tryz.zeroValue141
  g3 := by kernel_rfl
  g4 := by kernel_rfl }
def Tryz.laysM171_ren : Go.Shelf.Ren := ⟨fun | 171 => 77 | 243 => 114 | 246 => 128 | 283 => 144 | 284 => 145 | 285 => 146 | 286 => 147 | 129 => 162 | 317 => 161 | 318 => 163 | 319 => 164 | 320 => 165 | 337 => 178 | 338 => 179 | n => n, fun | 3 => 3 | 9 => 9 | 2 => 2 | 4 => 4 | 171 => 147 | 0 => 0 | 53 => 25 | 37 => 30 | 5 => 5 | 173 => 150 | 212 => 160 | 51 => 142 | 20 => 20 | 213 => 161 | 46 => 69 | 232 => 180 | 233 => 181 | n => n, fun | 17 => 2 | 18 => 6 | 19 => 7 | n => n⟩
theorem Tryz.laysM171 : Go.Proofs.LaysM.n171 Tryz.prog Tryz.laysM171_ren := {
  mixed := by kernel_rfl
  f129 := Tryz.func162.trans (congrArg some (by kernel_rfl))
  f171 := Tryz.func77.trans (congrArg some (by kernel_rfl))
  f243 := Tryz.func114.trans (congrArg some (by kernel_rfl))
  f246 := Tryz.func128.trans (congrArg some (by kernel_rfl))
  f283 := Tryz.func144.trans (congrArg some (by kernel_rfl))
  f284 := Tryz.func145.trans (congrArg some (by kernel_rfl))
  f285 := Tryz.func146.trans (congrArg some (by kernel_rfl))
  f286 := Tryz.func147.trans (congrArg some (by kernel_rfl))
  f317 := Tryz.func161.trans (congrArg some (by kernel_rfl))
  f318 := Tryz.func163.trans (congrArg some (by kernel_rfl))
  f319 := Tryz.func164.trans (congrArg some (by kernel_rfl))
  f320 := Tryz.func165.trans (congrArg some (by kernel_rfl))
  f337 := Tryz.func178.trans (congrArg some (by kernel_rfl))
  f338 := Tryz.func179.trans (congrArg some (by kernel_rfl))
  t0 := Tryz.underlying0
  a0 := Tryz.isAgg0
  z0 := Tryz.sizeOf0
  v0 := Tryz.zeroValue0
  t2 := Tryz.underlying2
  a2 := Tryz.isAgg2
  z2 := Tryz.sizeOf2
  v2 := Tryz.zeroValue2
  t3 := Tryz.underlying3
  a3 := Tryz.isAgg3
  z3 := Tryz.sizeOf3
  v3 := Tryz.zeroValue3
  t4 := Tryz.underlying4
  a4 := Tryz.isAgg4
  z4 := Tryz.sizeOf4
  v4 := Tryz.zeroValue4
  t5 := Tryz.underlying5
  a5 := Tryz.isAgg5
  z5 := Tryz.sizeOf5
  v5 := Tryz.zeroValue5
  t9 := Tryz.underlying9
  a9 := Tryz.isAgg9
  z9 := Tryz.sizeOf9
  v9 := Tryz.zeroValue9
  t20 := Tryz.underlying20
  a20 := Tryz.isAgg20
  z20 := Tryz.sizeOf20
  v20 := Tryz.zeroValue20
  t37 := Tryz.underlying30
  a37 := Tryz.isAgg30
  z37 := Tryz.sizeOf30
  v37 := Tryz.zeroValue30
  t46 := Tryz.underlying69
  a46 := Tryz.isAgg69
  z46 := Tryz.sizeOf69
  v46 := Tryz.zeroValue69
  t51 := Tryz.underlying142
  a51 := Tryz.isAgg142
  z51 := Tryz.sizeOf142
  v51 := Tryz.zeroValue142
  t53 := Tryz.underlying25
  a53 := Tryz.isAgg25
  z53 := Tryz.sizeOf25
  v53 := Tryz.zeroValue25
  t171 := Tryz.underlying147
  a171 := Tryz.isAgg147
  z171 := Tryz.sizeOf147
  v171 := Tryz.zeroValue147
  t173 := Tryz.underlying150
  a173 := Tryz.isAgg150
  z173 := Tryz.sizeOf150
  v173 := Tryz.zeroValue150
  t212 := Tryz.underlying160
  a212 := Tryz.isAgg160
  z212 := Tryz.sizeOf160
  v212 := Tryz.zeroValue160
  t213 := Tryz.underlying161
  a213 := Tryz.isAgg161
  z213 := Tryz.sizeOf161
  t232 := Tryz.underlying180
  a232 := Tryz.isAgg180
  z232 := Tryz.sizeOf180
  v232 := Tryz.zeroValue180
  t233 := Tryz.underlying181
  a233 := Tryz.isAgg181
  z233 := Tryz.sizeOf181
  v233 := Tryz.zeroValue181
  g17 := by kernel_rfl
  g18 := by kernel_rfl
  g19 := by kernel_rfl
  i0 := by kernel_rfl
  i2 := by kernel_rfl
  i3 := by kernel_rfl
  i4 := by kernel_rfl
  i5 := by kernel_rfl
  i9 := by kernel_rfl
  i20 := by kernel_rfl
  i37 := by kernel_rfl
  i46 := by kernel_rfl
  i51 := by kernel_rfl
  i53 := by kernel_rfl
  i171 := by kernel_rfl
  i173 := by kernel_rfl
  i212 := by kernel_rfl
  i232 := by kernel_rfl
  i233 := by kernel_rfl
  m17 := by kernel_rfl
  m18 := by kernel_rfl
  m19 := by kernel_rfl }
open Go.RowKit Go.Sort Go.Lib in
/-- strconv.Itoa: "Itoa is equivalent to FormatInt(int64(i), 10).": i's DECIMAL NUMERAL ('Lib.itoa': a '-' where i is negative, then the digits), FOR EVERY int. The world behind the call: the world before it, new blocks behind the heap (the library's 'var a [24]byte'), draws. (LAID: no walk: one application.) -/
theorem Tryz.strconv_Itoa (n : Int) (h0 : -9223372036854775808 ≤ n) (h1 : n ≤ 9223372036854775807) (w : World) (htab : Lib.TabIs Tryz.prog w "internal/strconv.uint64pow10" .u64 Lib.pow10Tab) :
    Calls Tryz.prog 77 #[.int .i64 n] w fun e w' => e = .returned (.string ⟨(Lib.itoa n).toArray⟩) ∧ ∃ k os, w' = grow (w.drewN k) os := Any.strconv_Itoa Tryz.laysM171 n h0 h1 w htab
end Go.Proofs
end
section
set_option linter.all false
set_option maxRecDepth 100000
namespace Go.AI.Jx
open Go Go.Proofs Go.RowKit

theorem glob0 : glob 0 = (List.range 256).map fun c => AV.v (.int .u8 (Lib.firstT c)) := by kernel_rfl
theorem glob1 : glob 1 = (List.range 32).map fun c => AV.v (.int .u8 (if c % 2 = 0 then Lib.accLo (c / 2) else Lib.accHi (c / 2) : Nat)) := by kernel_rfl
theorem tabs_of {g : Ghost} {H : Heap} {w : World} (I : Inv E g H w) : Lib.Utf8Tabs 0 1 w := by
  constructor
  · intro c hc
    refine glob_cell I ?_
    rw [E_glob, glob0]
    simp [hc]
  · intro i hi
    constructor
    · refine glob_cell I ?_
      rw [E_glob, glob1]
      have h1 : 2 * i < 32 := by omega
      have h2 : 2 * i % 2 = 0 := by omega
      have h3 : 2 * i / 2 = i := by omega
      simp [h1, h2, h3]
    · refine glob_cell I ?_
      rw [E_glob, glob1]
      have h1 : 2 * i + 1 < 32 := by omega
      have h2 : ¬ ((2 * i + 1) % 2 = 0) := by omega
      have h3 : (2 * i + 1) / 2 = i := by omega
      simp [h1, h2, h3]

/-- Is a text well formed? -/
def valid (s : ByteArray) : Bool := Lib.validD s.data.toList
theorem con108 (s : ByteArray) (hs : s.size ≤ 2 ^ 46) (H : Heap) : Con E 108 [.v (.string s)] H (.ret (.v (.bool (valid s)))) H := fun g w vs I ra => by
  have := orc_below (f := 108) (vs := [.string s]) (v := .bool (valid s)) I (args := [.v (.string s)]) rfl ra (Any.utf8_ValidString Tryz.lays196 s w (by omega) (tabs_of I))
  exact this
theorem info93 : (Tryz.prog.info? 93).map (fun i => (i.zero, i.size)) = some (some (.agg (Array.replicate 256 (.bool false))), 256) := by kernel_rfl
def cut (s cs : ByteArray) : ByteArray := ⟨(Lib.trimS s.data.toList cs.data.toList).toArray⟩
def cutL (s cs : ByteArray) : ByteArray := ⟨(Lib.trimLeftS s.data.toList cs.data.toList).toArray⟩
def cutR (s cs : ByteArray) : ByteArray := ⟨(Lib.trimRightS s.data.toList cs.data.toList).toArray⟩
def Ascii (cs : ByteArray) : Prop := cs.size < 4294967281 ∧ ∀ (j : Nat) b, cs.data.toList[j]? = some b → b.toNat < 128
theorem con124 (s cs : ByteArray) (hs : s.size ≤ 2 ^ 46) (hc : Ascii cs) (H : Heap) : Con E 124 [.v (.string s), .v (.string cs)] H (.ret (.v (.string (cut s cs)))) H := fun g w vs I ra => by
  have := orc_below (f := 124) (vs := [.string s, .string cs]) (v := .string (cut s cs)) I (args := [.v (.string s), .v (.string cs)]) rfl ra (Any.strings_Trim_laid Tryz.lays160 info93 s cs w (by omega) hc.1 hc.2)
  exact this
theorem con45 (s cs : ByteArray) (hs : s.size ≤ 2 ^ 46) (hc : Ascii cs) (H : Heap) : Con E 45 [.v (.string s), .v (.string cs)] H (.ret (.v (.string (cutL s cs)))) H := fun g w vs I ra => by
  have := orc_below (f := 45) (vs := [.string s, .string cs]) (v := .string (cutL s cs)) I (args := [.v (.string s), .v (.string cs)]) rfl ra (Any.strings_TrimLeft_laid Tryz.lays161 info93 s cs w hc.1 hc.2)
  exact this
theorem con158 (s cs : ByteArray) (hs : s.size ≤ 2 ^ 46) (hc : Ascii cs) (H : Heap) : Con E 158 [.v (.string s), .v (.string cs)] H (.ret (.v (.string (cutR s cs)))) H := fun g w vs I ra => by
  have := orc_below (f := 158) (vs := [.string s, .string cs]) (v := .string (cutR s cs)) I (args := [.v (.string s), .v (.string cs)]) rfl ra (Any.strings_TrimRight_laid Tryz.lays162 info93 s cs w (by omega) hc.1 hc.2)
  exact this
/-- One argument, two: told. -/
def enc1 (s : ByteArray) : List AV := [.v (.string s)]
def enc2 (p : ByteArray × ByteArray) : List AV := [.v (.string p.1), .v (.string p.2)]
theorem enc1_inj (a b : ByteArray) (h : enc1 a = enc1 b) : a = b := by
  simpa [enc1] using h
theorem enc2_inj (a b : ByteArray × ByteArray) (h : enc2 a = enc2 b) : a = b := by
  simp only [enc2, List.cons.injEq, AV.v.injEq, Value.string.injEq, and_true] at h
  exact Prod.ext h.1 h.2
noncomputable def s108 : Spec := specOf enc1 (fun s => s.size ≤ 2 ^ 46) fun s => .ret (.v (.bool (valid s)))
theorem ok108 : SpecOk E 108 s108 := specOf_ok fun s hs H => con108 s hs H
theorem s108_at {s : ByteArray} {H : Heap} (hs : s.size ≤ 2 ^ 46) : s108 [.v (.string s)] H = some (.ret (.v (.bool (valid s))), H) := specOf_eq (a := s) enc1_inj hs
noncomputable def s124 : Spec := specOf enc2 (fun p => p.1.size ≤ 2 ^ 46 ∧ Ascii p.2) fun p => .ret (.v (.string (cut p.1 p.2)))
theorem ok124 : SpecOk E 124 s124 := specOf_ok fun p hp H => con124 p.1 p.2 hp.1 hp.2 H
theorem s124_at {s cs : ByteArray} {H : Heap} (hs : s.size ≤ 2 ^ 46) (hc : Ascii cs) : s124 [.v (.string s), .v (.string cs)] H = some (.ret (.v (.string (cut s cs))), H) := specOf_eq (a := (s, cs)) enc2_inj ⟨hs, hc⟩
end Go.AI.Jx
end
section
set_option linter.all false
set_option maxRecDepth 100000
namespace Go.AI.Jx
open Go Go.Proofs
theorem code106 : E.code 106 = some (Tryz.f106, (Tryz.f106.body).get!) := by kernel_rfl
theorem code107 : E.code 107 = some (Tryz.f107, (Tryz.f107.body).get!) := by kernel_rfl
theorem code139 : E.code 139 = some (Tryz.f139, (Tryz.f139.body).get!) := by kernel_rfl
theorem code21 : E.code 21 = some (Tryz.f21, (Tryz.f21.body).get!) := by kernel_rfl
theorem code70 : E.code 70 = some (Tryz.f70, (Tryz.f70.body).get!) := by kernel_rfl

theorem und9 : E.P.underlying 9 = some .string := by kernel_rfl
theorem wrap64 {x : Int} (h0 : -9223372036854775808 ≤ x) (h1 : x ≤ 9223372036854775807) : IntKind.i64.wrap x = x := by
  unfold IntKind.wrap
  have h2 : IntKind.i64.bits = 64 := by decide
  have h3 : IntKind.i64.signed = true := by decide
  simp only [h2, h3]
  simp
  omega

/-! ### strings.HasSuffix -/
def suffixB (s p : ByteArray) : Bool := decide (p.size ≤ s.size) && decide (s.extract (s.size - p.size) s.size = p)
theorem walk139 {call : CallFn} {n : Nat} (s p : ByteArray) (hs : s.size ≤ 2 ^ 46) (hp : p.size ≤ 2 ^ 46) : Gives (abody E call n Tryz.f139 (Tryz.f139.body.get!) [.v (.string s), .v (.string p)] []) (.ret (.v (.bool (suffixB s p)))) := by
  rw [abody_K]
  obtain ⟨tm0, htm, h00, h01, hfr⟩ : ∃ tm0 : List AV, tm0.length = 21 ∧ tm0.getD 0 (.v undef) = .v (.string s) ∧ tm0.getD 1 (.v undef) = .v (.string p) ∧ aframe E Tryz.f139 [.v (.string s), .v (.string p)] [] = ⟨tm0, [], []⟩ := ⟨_, rfl, rfl, rfl, rfl⟩
  rw [hfr]
  obtain ⟨fin, hfin, hret, hnor⟩ : ∃ fin, fin = afin E call n Tryz.f139 ∧ (∀ tm H, fin (some (.ret, ⟨tm, [], H⟩)) = some (.ret (tm.getD 4 (.v undef)), H)) ∧ ∀ tm H, fin (some (.normal, ⟨tm, [], H⟩)) = some (.ret (tm.getD 4 (.v undef)), H) := ⟨_, rfl, fun _ _ => rfl, fun _ _ => rfl⟩
  rw [← hfin]
  generalize hq : aK E call n fin [] (acode E call n (Tryz.f139.body.get!) ⟨tm0, [], []⟩) = q
  simp [Tryz.f139] at hq
  have hw : IntKind.i64.wrap ((s.size : Int) - p.size) = (s.size : Int) - p.size := wrap64 (by omega) (by omega)
  by_cases hle : p.size ≤ s.size
  · have h1 : (p.size : Int) ≤ s.size := by omega
    have hd : decide ((s.size : Int) ≥ p.size) = true := by simpa using h1
    have hsl := fun H : Heap => osl_lo (P := E.P) (t := 9) (s := s) (H := H) (k := .i64) (l := (s.size : Int) - p.size) und9 (by omega) (by omega)
    have hn : ((s.size : Int) - p.size).toNat = s.size - p.size := by omega
    simp only [kops_nil, kops_plain, kops_if, kstep_val, kstep_skip, kstep_call, kret_ret, kguard_tt, kguard_ff, kguard_tf, kguard_ft, kguard_un, kone_plain, koneS_val, koneS_skip, koneS_call, koneR_ret, aK_seq, aK_block, aK_region, aK_skip, aK_exit, aK_ret, aK_loop, aK_seq_n, aK_seq_e, aK_seq_r, aK_seq_p, aK_blk_n, aK_blk_e, aK_blk_r, aK_blk_p, aK_nil_n, aK_nil_e, aK_nil_r, aK_nil_p, aK_cond, abr_true, abr_false, astep_call, aret_ret, aret_pan, astep_dfr, afin_ret, afin_normal, afin_pan, oload_p, oloadO_box, oload_ep, aload_eq, oload1_one, oload1_agg, ostore_p, ostoreO_box, astore_eq, ostore1_some, cells_int, cells_bool, cells_string, cells_sl, cells_asl, cells_ptr, cells_mp, cells_agg, cells_ifc, cells_fn, cells_slice, cells_nilIface, cells_pointer, ofield_ptr, ofield_ep, aop_field, aop_nilCheck, onil_ptr, aop_extract, oext_tup, aop_makeFunc, aop_alloc', oalloc_some, aop_panic, opan_ifc, cond_bool, cond_int, cond_str, obin_seq, obin_sne, oc_lss, oc_leq, oc_gtr, oc_geq, oc_eql, oc_neq, oa_add, oa_sub, oa_mul, olen_str, tyL, tyA, tyS, tyU, tyF, aop_lookup, aop_update, aop_makeMap, aop_un, oun_not, aops_if, aguard_tt, aguard_ff, aguard_tf, aguard_ft, aguard_un, gslot, gval_some, aop_pick, opick_bool, cond_true, cond_false, List.getElem?_toArray, List.getElem?_cons_succ, List.getElem?_cons_zero, Option.bind_some, goInt, conv, convA, conv1, List.toList_toArray, Option.get!_some, ne_eq, not_false_eq_true, decide_false, decide_true, Int.reduceLT, Int.reduceLE, Int.reduceGT, Int.reduceGE, Int.reduceEq, Int.reduceBEq, Int.reduceBNe, Int.reduceNeg, Nat.reduceEqDiff, Nat.reduceLT, Nat.reduceAdd, Nat.reduceLeDiff, Option.map_some, List.map_cons, List.map_nil, aops_nil, aops_plain, astep_val, astep_skip, astep_pan, putA_some, putA_none, aval_tmp, aval_const, aval_global, aval_func, aop_move, aop_assign, aop_box, obox_some, aop_fieldAddr, aop_load, aop_store, aop_bin, aop_call, aop_len, aop_max, omax_int, List.length_set, getD_set_self, getD_set_ne, List.length_cons, List.length_nil, List.nil_append, List.cons_append, List.set_cons_zero, List.set_cons_succ, Nat.zero_add, Nat.add_zero, List.drop_succ_cons, List.drop_zero, List.take_succ_cons, List.take_zero, splice, List.all_cons, List.all_nil, AV.one, Bool.and_true, Bool.and_self, and_self, if_true, if_false, reduceCtorEq, Bool.not_true, Bool.not_false, Bool.true_and, Bool.false_and, VT.enc, htm, hret, hnor, h00, h01, hd, hw, aop_slice_sn, hsl, hn] at hq
    subst hq
    rw [gives_some, ret_bool]
    simp [suffixB, hle]
  · have hd : decide ((s.size : Int) ≥ p.size) = false := by simp; omega
    simp only [kops_nil, kops_plain, kops_if, kstep_val, kstep_skip, kstep_call, kret_ret, kguard_tt, kguard_ff, kguard_tf, kguard_ft, kguard_un, kone_plain, koneS_val, koneS_skip, koneS_call, koneR_ret, aK_seq, aK_block, aK_region, aK_skip, aK_exit, aK_ret, aK_loop, aK_seq_n, aK_seq_e, aK_seq_r, aK_seq_p, aK_blk_n, aK_blk_e, aK_blk_r, aK_blk_p, aK_nil_n, aK_nil_e, aK_nil_r, aK_nil_p, aK_cond, abr_true, abr_false, astep_call, aret_ret, aret_pan, astep_dfr, afin_ret, afin_normal, afin_pan, oload_p, oloadO_box, oload_ep, aload_eq, oload1_one, oload1_agg, ostore_p, ostoreO_box, astore_eq, ostore1_some, cells_int, cells_bool, cells_string, cells_sl, cells_asl, cells_ptr, cells_mp, cells_agg, cells_ifc, cells_fn, cells_slice, cells_nilIface, cells_pointer, ofield_ptr, ofield_ep, aop_field, aop_nilCheck, onil_ptr, aop_extract, oext_tup, aop_makeFunc, aop_alloc', oalloc_some, aop_panic, opan_ifc, cond_bool, cond_int, cond_str, obin_seq, obin_sne, oc_lss, oc_leq, oc_gtr, oc_geq, oc_eql, oc_neq, oa_add, oa_sub, oa_mul, olen_str, tyL, tyA, tyS, tyU, tyF, aop_lookup, aop_update, aop_makeMap, aop_un, oun_not, aops_if, aguard_tt, aguard_ff, aguard_tf, aguard_ft, aguard_un, gslot, gval_some, aop_pick, opick_bool, cond_true, cond_false, List.getElem?_toArray, List.getElem?_cons_succ, List.getElem?_cons_zero, Option.bind_some, goInt, conv, convA, conv1, List.toList_toArray, Option.get!_some, ne_eq, not_false_eq_true, decide_false, decide_true, Int.reduceLT, Int.reduceLE, Int.reduceGT, Int.reduceGE, Int.reduceEq, Int.reduceBEq, Int.reduceBNe, Int.reduceNeg, Nat.reduceEqDiff, Nat.reduceLT, Nat.reduceAdd, Nat.reduceLeDiff, Option.map_some, List.map_cons, List.map_nil, aops_nil, aops_plain, astep_val, astep_skip, astep_pan, putA_some, putA_none, aval_tmp, aval_const, aval_global, aval_func, aop_move, aop_assign, aop_box, obox_some, aop_fieldAddr, aop_load, aop_store, aop_bin, aop_call, aop_len, aop_max, omax_int, List.length_set, getD_set_self, getD_set_ne, List.length_cons, List.length_nil, List.nil_append, List.cons_append, List.set_cons_zero, List.set_cons_succ, Nat.zero_add, Nat.add_zero, List.drop_succ_cons, List.drop_zero, List.take_succ_cons, List.take_zero, splice, List.all_cons, List.all_nil, AV.one, Bool.and_true, Bool.and_self, and_self, if_true, if_false, reduceCtorEq, Bool.not_true, Bool.not_false, Bool.true_and, Bool.false_and, VT.enc, htm, hret, hnor, h00, h01, hd] at hq
    subst hq
    rw [gives_some, ret_bool]
    simp [suffixB, hle]
theorem con139 (s p : ByteArray) (hs : s.size ≤ 2 ^ 46) (hp : p.size ≤ 2 ^ 46) (H : Heap) : Con E 139 [.v (.string s), .v (.string p)] H (.ret (.v (.bool (suffixB s p)))) H :=
  con_walk goodE mixed noCall_ok code139 rfl rfl (walk139 (n := 0) s p hs hp) H
noncomputable def s139 : Spec := specOf enc2 (fun p => p.1.size ≤ 2 ^ 46 ∧ p.2.size ≤ 2 ^ 46) fun p => .ret (.v (.bool (suffixB p.1 p.2)))
theorem ok139 : SpecOk E 139 s139 := specOf_ok fun p hp H => con139 p.1 p.2 hp.1 hp.2 H
theorem walk107 {call : CallFn} {n : Nat} (s p : ByteArray) (h139 : ∀ H, call 139 [.v (.string s), .v (.string p)] H = some (.ret (.v (.bool (suffixB s p))), H)) : Gives (abody E call n Tryz.f107 (Tryz.f107.body.get!) [.v (.string s), .v (.string p)] []) (.ret (.v (.bool (suffixB s p)))) := by
  rw [abody_K]
  obtain ⟨tm0, htm, h00, h01, hfr⟩ : ∃ tm0 : List AV, tm0.length = 8 ∧ tm0.getD 0 (.v undef) = .v (.string s) ∧ tm0.getD 1 (.v undef) = .v (.string p) ∧ aframe E Tryz.f107 [.v (.string s), .v (.string p)] [] = ⟨tm0, [], []⟩ := ⟨_, rfl, rfl, rfl, rfl⟩
  rw [hfr]
  obtain ⟨fin, hfin, hret, hnor⟩ : ∃ fin, fin = afin E call n Tryz.f107 ∧ (∀ tm H, fin (some (.ret, ⟨tm, [], H⟩)) = some (.ret (tm.getD 4 (.v undef)), H)) ∧ ∀ tm H, fin (some (.normal, ⟨tm, [], H⟩)) = some (.ret (tm.getD 4 (.v undef)), H) := ⟨_, rfl, fun _ _ => rfl, fun _ _ => rfl⟩
  rw [← hfin]
  generalize hq : aK E call n fin [] (acode E call n (Tryz.f107.body.get!) ⟨tm0, [], []⟩) = q
  simp [Tryz.f107] at hq
  have hb : (Code.skip = Code.skip) ↔ True := by simp
  repeat' (first
    | (simp only [cond_iff, guardT_iff, guardF_iff, aret_iff, kguardT_iff, kguardF_iff] at hq; rcases hq with ⟨hb, hq⟩ | ⟨hb, hq⟩)
    | simp only [kops_nil, kops_plain, kops_if, kstep_val, kstep_skip, kstep_call, kret_ret, kguard_tt, kguard_ff, kguard_tf, kguard_ft, kguard_un, kone_plain, koneS_val, koneS_skip, koneS_call, koneR_ret, aK_seq, aK_block, aK_region, aK_skip, aK_exit, aK_ret, aK_loop, aK_seq_n, aK_seq_e, aK_seq_r, aK_seq_p, aK_blk_n, aK_blk_e, aK_blk_r, aK_blk_p, aK_nil_n, aK_nil_e, aK_nil_r, aK_nil_p, aK_cond, abr_true, abr_false, astep_call, aret_ret, aret_pan, astep_dfr, afin_ret, afin_normal, afin_pan, oload_p, oloadO_box, oload_ep, aload_eq, oload1_one, oload1_agg, ostore_p, ostoreO_box, astore_eq, ostore1_some, cells_int, cells_bool, cells_string, cells_sl, cells_asl, cells_ptr, cells_mp, cells_agg, cells_ifc, cells_fn, cells_slice, cells_nilIface, cells_pointer, ofield_ptr, ofield_ep, aop_field, aop_nilCheck, onil_ptr, aop_extract, oext_tup, aop_makeFunc, aop_alloc', oalloc_some, aop_panic, opan_ifc, cond_bool, cond_int, cond_str, obin_seq, obin_sne, oc_lss, oc_leq, oc_gtr, oc_geq, oc_eql, oc_neq, oa_add, oa_sub, oa_mul, olen_str, tyL, tyA, tyS, tyU, tyF, aop_lookup, aop_update, aop_makeMap, aop_un, oun_not, aops_if, aguard_tt, aguard_ff, aguard_tf, aguard_ft, aguard_un, gslot, gval_some, aop_pick, opick_bool, cond_true, cond_false, List.getElem?_toArray, List.getElem?_cons_succ, List.getElem?_cons_zero, Option.bind_some, goInt, conv, convA, conv1, List.toList_toArray, Option.get!_some, ne_eq, not_false_eq_true, decide_false, decide_true, Int.reduceLT, Int.reduceLE, Int.reduceGT, Int.reduceGE, Int.reduceEq, Int.reduceBEq, Int.reduceBNe, Int.reduceNeg, Nat.reduceEqDiff, Nat.reduceLT, Nat.reduceAdd, Nat.reduceLeDiff, Option.map_some, List.map_cons, List.map_nil, aops_nil, aops_plain, astep_val, astep_skip, astep_pan, putA_some, putA_none, aval_tmp, aval_const, aval_global, aval_func, aop_move, aop_assign, aop_box, obox_some, aop_fieldAddr, aop_load, aop_store, aop_bin, aop_call, aop_len, aop_max, omax_int, List.length_set, getD_set_self, getD_set_ne, List.length_cons, List.length_nil, List.nil_append, List.cons_append, List.set_cons_zero, List.set_cons_succ, Nat.zero_add, Nat.add_zero, List.drop_succ_cons, List.drop_zero, List.take_succ_cons, List.take_zero, splice, List.all_cons, List.all_nil, AV.one, Bool.and_true, Bool.and_self, and_self, if_true, if_false, reduceCtorEq, Bool.not_true, Bool.not_false, Bool.true_and, Bool.false_and, VT.enc, hb, htm, hret, hnor, h00, h01, ocall_fn code139, h139] at hq)
  subst hq
  rw [gives_some]
theorem con107 (s p : ByteArray) (hs : s.size ≤ 2 ^ 46) (hp : p.size ≤ 2 ^ 46) (H : Heap) : Con E 107 [.v (.string s), .v (.string p)] H (.ret (.v (.bool (suffixB s p)))) H :=
  con_walk goodE mixed (told_ok ok139 noCall_ok) code107 rfl rfl (walk107 (n := 0) s p fun H => by rw [told_self]; exact specOf_eq (a := (s, p)) enc2_inj ⟨hs, hp⟩) H
noncomputable def s107 : Spec := specOf enc2 (fun p => p.1.size ≤ 2 ^ 46 ∧ p.2.size ≤ 2 ^ 46) fun p => .ret (.v (.bool (suffixB p.1 p.2)))
theorem ok107 : SpecOk E 107 s107 := specOf_ok fun p hp H => con107 p.1 p.2 hp.1 hp.2 H

/-! ### num.digits -/
def digitsC : ByteArray := ⟨#[48, 49, 50, 51, 52, 53, 54, 55, 56, 57]⟩
theorem digitsC_ascii : Ascii digitsC := ⟨by decide, ascii_of_all (by decide)⟩
def digitsB (s : ByteArray) : Bool := !decide (s = ⟨#[]⟩) && decide (cut s digitsC = ⟨#[]⟩)
theorem walk106 {call : CallFn} {n : Nat} (s : ByteArray) (h124 : ∀ H, call 124 [.v (.string s), .v (.string digitsC)] H = some (.ret (.v (.string (cut s digitsC))), H)) : Gives (abody E call n Tryz.f106 (Tryz.f106.body.get!) [.v (.string s)] []) (.ret (.v (.bool (digitsB s)))) := by
  unfold digitsC at h124
  have c124 : E.code 124 = some (Tryz.f124, (Tryz.f124.body).get!) := by kernel_rfl
  rw [abody_K]
  obtain ⟨tm0, htm, h00, hfr⟩ : ∃ tm0 : List AV, tm0.length = 10 ∧ tm0.getD 0 (.v undef) = .v (.string s) ∧ aframe E Tryz.f106 [.v (.string s)] [] = ⟨tm0, [], []⟩ := ⟨_, rfl, rfl, rfl⟩
  rw [hfr]
  obtain ⟨fin, hfin, hret, hnor⟩ : ∃ fin, fin = afin E call n Tryz.f106 ∧ (∀ tm H, fin (some (.ret, ⟨tm, [], H⟩)) = some (.ret (tm.getD 2 (.v undef)), H)) ∧ ∀ tm H, fin (some (.normal, ⟨tm, [], H⟩)) = some (.ret (tm.getD 2 (.v undef)), H) := ⟨_, rfl, fun _ _ => rfl, fun _ _ => rfl⟩
  rw [← hfin]
  generalize hq : aK E call n fin [] (acode E call n (Tryz.f106.body.get!) ⟨tm0, [], []⟩) = q
  simp [Tryz.f106] at hq
  have hb : (Code.skip = Code.skip) ↔ True := by simp
  repeat' (first
    | (simp only [cond_iff, guardT_iff, guardF_iff, aret_iff, kguardT_iff, kguardF_iff] at hq; rcases hq with ⟨hb, hq⟩ | ⟨hb, hq⟩)
    | simp only [kops_nil, kops_plain, kops_if, kstep_val, kstep_skip, kstep_call, kret_ret, kguard_tt, kguard_ff, kguard_tf, kguard_ft, kguard_un, kone_plain, koneS_val, koneS_skip, koneS_call, koneR_ret, aK_seq, aK_block, aK_region, aK_skip, aK_exit, aK_ret, aK_loop, aK_seq_n, aK_seq_e, aK_seq_r, aK_seq_p, aK_blk_n, aK_blk_e, aK_blk_r, aK_blk_p, aK_nil_n, aK_nil_e, aK_nil_r, aK_nil_p, aK_cond, abr_true, abr_false, astep_call, aret_ret, aret_pan, astep_dfr, afin_ret, afin_normal, afin_pan, oload_p, oloadO_box, oload_ep, aload_eq, oload1_one, oload1_agg, ostore_p, ostoreO_box, astore_eq, ostore1_some, cells_int, cells_bool, cells_string, cells_sl, cells_asl, cells_ptr, cells_mp, cells_agg, cells_ifc, cells_fn, cells_slice, cells_nilIface, cells_pointer, ofield_ptr, ofield_ep, aop_field, aop_nilCheck, onil_ptr, aop_extract, oext_tup, aop_makeFunc, aop_alloc', oalloc_some, aop_panic, opan_ifc, cond_bool, cond_int, cond_str, obin_seq, obin_sne, oc_lss, oc_leq, oc_gtr, oc_geq, oc_eql, oc_neq, oa_add, oa_sub, oa_mul, olen_str, tyL, tyA, tyS, tyU, tyF, aop_lookup, aop_update, aop_makeMap, aop_un, oun_not, aops_if, aguard_tt, aguard_ff, aguard_tf, aguard_ft, aguard_un, gslot, gval_some, aop_pick, opick_bool, cond_true, cond_false, List.getElem?_toArray, List.getElem?_cons_succ, List.getElem?_cons_zero, Option.bind_some, goInt, conv, convA, conv1, List.toList_toArray, Option.get!_some, ne_eq, not_false_eq_true, decide_false, decide_true, Int.reduceLT, Int.reduceLE, Int.reduceGT, Int.reduceGE, Int.reduceEq, Int.reduceBEq, Int.reduceBNe, Int.reduceNeg, Nat.reduceEqDiff, Nat.reduceLT, Nat.reduceAdd, Nat.reduceLeDiff, Option.map_some, List.map_cons, List.map_nil, aops_nil, aops_plain, astep_val, astep_skip, astep_pan, putA_some, putA_none, aval_tmp, aval_const, aval_global, aval_func, aop_move, aop_assign, aop_box, obox_some, aop_fieldAddr, aop_load, aop_store, aop_bin, aop_call, aop_len, aop_max, omax_int, List.length_set, getD_set_self, getD_set_ne, List.length_cons, List.length_nil, List.nil_append, List.cons_append, List.set_cons_zero, List.set_cons_succ, Nat.zero_add, Nat.add_zero, List.drop_succ_cons, List.drop_zero, List.take_succ_cons, List.take_zero, splice, List.all_cons, List.all_nil, AV.one, Bool.and_true, Bool.and_self, and_self, if_true, if_false, reduceCtorEq, Bool.not_true, Bool.not_false, Bool.true_and, Bool.false_and, VT.enc, hb, htm, hret, hnor, h00, ocall_fn c124, h124] at hq)
  all_goals (subst hq; rw [gives_some, ret_bool]; simp_all [digitsB, digitsC])
  all_goals exact decide_eq_decide.2 Iff.rfl
theorem con106 (s : ByteArray) (hs : s.size ≤ 2 ^ 46) (H : Heap) : Con E 106 [.v (.string s)] H (.ret (.v (.bool (digitsB s)))) H :=
  con_walk goodE mixed (told_ok ok124 noCall_ok) code106 rfl rfl (walk106 (n := 0) s fun H => by rw [told_self]; exact s124_at hs digitsC_ascii) H
noncomputable def s106 : Spec := specOf enc1 (fun s => s.size ≤ 2 ^ 46) fun s => .ret (.v (.bool (digitsB s)))
theorem ok106 : SpecOk E 106 s106 := specOf_ok fun s hs H => con106 s hs H

/-! ### num.Check -/
def numCheck (n : Bool) (d : ByteArray) (e : Int) : Int :=
  bif n == false && d == ⟨#[48]⟩ && e == 0 then 0 else
  bif !digitsB d || decide ((d.size : Int) > 40) || ((d.data.toList.headD 0).toNat : Int) == 48 || suffixB d ⟨#[48]⟩ || decide (e < -400) || decide (e > 400) then 10 else 0
theorem build24z {tm : List AV} {dst : Option Tmp} {ty : TypeId} {pos : String} {after : Array Edge} {gd : Option (Nat × Bool)} {H : Heap} : aop E (aval E tm) ⟨dst, .build 24 #[(1, .const (.string ⟨#[48]⟩))], ty, pos, after, gd⟩ H = some (.val (.agg [.v (.bool false), .v (.string ⟨#[48]⟩), .v (.int .i64 0)]), H) := by kernel_rfl
theorem digits_idx {d : ByteArray} {H : Heap} (h : digitsB d = true) : oindexV E.P 9 H (.v (.string d)) (.v (.int .i64 0)) = some (.val (.v (.int .u8 (d.data.toList.headD 0).toNat)), H) := by
  have hne : d.data.toList ≠ [] := by
    intro e
    have : d = ⟨#[]⟩ := by
      obtain ⟨a⟩ := d
      congr 1
      exact Array.toList_inj.1 e
    subst this
    simp [digitsB] at h
  refine oidx_str und9 (by omega) ?_
  cases hl : d.data.toList with
  | nil => exact (hne hl).elim
  | cons a l => simp
theorem walk66true {call : CallFn} {n : Nat} (ng : Bool) (d : ByteArray) (e : Int) (hdg : digitsB d = true) (h106 : ∀ H, call 106 [.v (.string d)] H = some (.ret (.v (.bool true)), H)) (h107 : ∀ H, call 107 [.v (.string d), .v (.string ⟨#[48]⟩)] H = some (.ret (.v (.bool (suffixB d ⟨#[48]⟩))), H)) :
    Gives (abody E call n Tryz.f66 (Tryz.f66.body.get!) [.agg [.v (.bool ng), .v (.string d), .v (.int .i64 e)]] []) (.ret (.v (.int .i64 (numCheck ng d e)))) := by
  rw [abody_K]
  obtain ⟨tm0, htm, h00, hfr⟩ : ∃ tm0 : List AV, tm0.length = 37 ∧ tm0.getD 0 (.v undef) = .agg [.v (.bool ng), .v (.string d), .v (.int .i64 e)] ∧ aframe E Tryz.f66 [.agg [.v (.bool ng), .v (.string d), .v (.int .i64 e)]] [] = ⟨tm0, [], []⟩ := ⟨_, rfl, rfl, rfl⟩
  rw [hfr]
  obtain ⟨fin, hfin, hret, hnor⟩ : ∃ fin, fin = afin E call n Tryz.f66 ∧ (∀ tm H, fin (some (.ret, ⟨tm, [], H⟩)) = some (.ret (tm.getD 2 (.v undef)), H)) ∧ ∀ tm H, fin (some (.normal, ⟨tm, [], H⟩)) = some (.ret (tm.getD 2 (.v undef)), H) := ⟨_, rfl, fun _ _ => rfl, fun _ _ => rfl⟩
  rw [← hfin]
  generalize hq : aK E call n fin [] (acode E call n (Tryz.f66.body.get!) ⟨tm0, [], []⟩) = q
  simp [Tryz.f66] at hq
  have hb : (Code.skip = Code.skip) ↔ True := by simp
  repeat' (first
    | (simp only [cond_iff, guardT_iff, guardF_iff, aret_iff, kguardT_iff, kguardF_iff] at hq; rcases hq with ⟨hb, hq⟩ | ⟨hb, hq⟩)
    | simp only [kops_nil, kops_plain, kops_if, kstep_val, kstep_skip, kstep_call, kret_ret, kguard_tt, kguard_ff, kguard_tf, kguard_ft, kguard_un, kone_plain, koneS_val, koneS_skip, koneS_call, koneR_ret, aK_seq, aK_block, aK_region, aK_skip, aK_exit, aK_ret, aK_loop, aK_seq_n, aK_seq_e, aK_seq_r, aK_seq_p, aK_blk_n, aK_blk_e, aK_blk_r, aK_blk_p, aK_nil_n, aK_nil_e, aK_nil_r, aK_nil_p, aK_cond, abr_true, abr_false, astep_call, aret_ret, aret_pan, astep_dfr, afin_ret, afin_normal, afin_pan, oload_p, oloadO_box, oload_ep, aload_eq, oload1_one, oload1_agg, ostore_p, ostoreO_box, astore_eq, ostore1_some, cells_int, cells_bool, cells_string, cells_sl, cells_asl, cells_ptr, cells_mp, cells_agg, cells_ifc, cells_fn, cells_slice, cells_nilIface, cells_pointer, ofield_ptr, ofield_ep, aop_field, aop_nilCheck, onil_ptr, aop_extract, oext_tup, aop_makeFunc, aop_alloc', oalloc_some, aop_panic, opan_ifc, cond_bool, cond_int, cond_str, obin_seq, obin_sne, oc_lss, oc_leq, oc_gtr, oc_geq, oc_eql, oc_neq, oa_add, oa_sub, oa_mul, olen_str, tyL, tyA, tyS, tyU, tyF, aop_lookup, aop_update, aop_makeMap, aop_un, oun_not, aops_if, aguard_tt, aguard_ff, aguard_tf, aguard_ft, aguard_un, gslot, gval_some, aop_pick, opick_bool, cond_true, cond_false, List.getElem?_toArray, List.getElem?_cons_succ, List.getElem?_cons_zero, Option.bind_some, goInt, conv, convA, conv1, List.toList_toArray, Option.get!_some, ne_eq, not_false_eq_true, decide_false, decide_true, Int.reduceLT, Int.reduceLE, Int.reduceGT, Int.reduceGE, Int.reduceEq, Int.reduceBEq, Int.reduceBNe, Int.reduceNeg, Nat.reduceEqDiff, Nat.reduceLT, Nat.reduceAdd, Nat.reduceLeDiff, Option.map_some, List.map_cons, List.map_nil, aops_nil, aops_plain, astep_val, astep_skip, astep_pan, putA_some, putA_none, aval_tmp, aval_const, aval_global, aval_func, aop_move, aop_assign, aop_box, obox_some, aop_fieldAddr, aop_load, aop_store, aop_bin, aop_call, aop_len, aop_max, omax_int, List.length_set, getD_set_self, getD_set_ne, List.length_cons, List.length_nil, List.nil_append, List.cons_append, List.set_cons_zero, List.set_cons_succ, Nat.zero_add, Nat.add_zero, List.drop_succ_cons, List.drop_zero, List.take_succ_cons, List.take_zero, splice, List.all_cons, List.all_nil, AV.one, Bool.and_true, Bool.and_self, and_self, if_true, if_false, reduceCtorEq, Bool.not_true, Bool.not_false, Bool.true_and, Bool.false_and, VT.enc, hb, htm, hret, hnor, h00, build24z, obin_eq24, ocall_fn code106, ocall_fn code107, h106, h107, aop_indexV, digits_idx hdg] at hq)
  all_goals (subst hq; rw [gives_some, ret_int]; clear h106 h107 hret hnor htm h00 hfr hfin; simp_all [numCheck])
  all_goals (cases hz : (!ng && d == ⟨#[48]⟩ && e == 0) <;> simp_all)
  all_goals (rw [eq_comm, Bool.cond_eq_ite, if_neg]; simp; omega)
theorem walk66false {call : CallFn} {n : Nat} (ng : Bool) (d : ByteArray) (e : Int) (hdg : digitsB d = false) (h106 : ∀ H, call 106 [.v (.string d)] H = some (.ret (.v (.bool false)), H)) (h107 : ∀ H, call 107 [.v (.string d), .v (.string ⟨#[48]⟩)] H = some (.ret (.v (.bool (suffixB d ⟨#[48]⟩))), H)) :
    Gives (abody E call n Tryz.f66 (Tryz.f66.body.get!) [.agg [.v (.bool ng), .v (.string d), .v (.int .i64 e)]] []) (.ret (.v (.int .i64 (numCheck ng d e)))) := by
  rw [abody_K]
  obtain ⟨tm0, htm, h00, hfr⟩ : ∃ tm0 : List AV, tm0.length = 37 ∧ tm0.getD 0 (.v undef) = .agg [.v (.bool ng), .v (.string d), .v (.int .i64 e)] ∧ aframe E Tryz.f66 [.agg [.v (.bool ng), .v (.string d), .v (.int .i64 e)]] [] = ⟨tm0, [], []⟩ := ⟨_, rfl, rfl, rfl⟩
  rw [hfr]
  obtain ⟨fin, hfin, hret, hnor⟩ : ∃ fin, fin = afin E call n Tryz.f66 ∧ (∀ tm H, fin (some (.ret, ⟨tm, [], H⟩)) = some (.ret (tm.getD 2 (.v undef)), H)) ∧ ∀ tm H, fin (some (.normal, ⟨tm, [], H⟩)) = some (.ret (tm.getD 2 (.v undef)), H) := ⟨_, rfl, fun _ _ => rfl, fun _ _ => rfl⟩
  rw [← hfin]
  generalize hq : aK E call n fin [] (acode E call n (Tryz.f66.body.get!) ⟨tm0, [], []⟩) = q
  simp [Tryz.f66] at hq
  have hb : (Code.skip = Code.skip) ↔ True := by simp
  repeat' (first
    | (simp only [cond_iff, guardT_iff, guardF_iff, aret_iff, kguardT_iff, kguardF_iff] at hq; rcases hq with ⟨hb, hq⟩ | ⟨hb, hq⟩)
    | simp only [kops_nil, kops_plain, kops_if, kstep_val, kstep_skip, kstep_call, kret_ret, kguard_tt, kguard_ff, kguard_tf, kguard_ft, kguard_un, kone_plain, koneS_val, koneS_skip, koneS_call, koneR_ret, aK_seq, aK_block, aK_region, aK_skip, aK_exit, aK_ret, aK_loop, aK_seq_n, aK_seq_e, aK_seq_r, aK_seq_p, aK_blk_n, aK_blk_e, aK_blk_r, aK_blk_p, aK_nil_n, aK_nil_e, aK_nil_r, aK_nil_p, aK_cond, abr_true, abr_false, astep_call, aret_ret, aret_pan, astep_dfr, afin_ret, afin_normal, afin_pan, oload_p, oloadO_box, oload_ep, aload_eq, oload1_one, oload1_agg, ostore_p, ostoreO_box, astore_eq, ostore1_some, cells_int, cells_bool, cells_string, cells_sl, cells_asl, cells_ptr, cells_mp, cells_agg, cells_ifc, cells_fn, cells_slice, cells_nilIface, cells_pointer, ofield_ptr, ofield_ep, aop_field, aop_nilCheck, onil_ptr, aop_extract, oext_tup, aop_makeFunc, aop_alloc', oalloc_some, aop_panic, opan_ifc, cond_bool, cond_int, cond_str, obin_seq, obin_sne, oc_lss, oc_leq, oc_gtr, oc_geq, oc_eql, oc_neq, oa_add, oa_sub, oa_mul, olen_str, tyL, tyA, tyS, tyU, tyF, aop_lookup, aop_update, aop_makeMap, aop_un, oun_not, aops_if, aguard_tt, aguard_ff, aguard_tf, aguard_ft, aguard_un, gslot, gval_some, aop_pick, opick_bool, cond_true, cond_false, List.getElem?_toArray, List.getElem?_cons_succ, List.getElem?_cons_zero, Option.bind_some, goInt, conv, convA, conv1, List.toList_toArray, Option.get!_some, ne_eq, not_false_eq_true, decide_false, decide_true, Int.reduceLT, Int.reduceLE, Int.reduceGT, Int.reduceGE, Int.reduceEq, Int.reduceBEq, Int.reduceBNe, Int.reduceNeg, Nat.reduceEqDiff, Nat.reduceLT, Nat.reduceAdd, Nat.reduceLeDiff, Option.map_some, List.map_cons, List.map_nil, aops_nil, aops_plain, astep_val, astep_skip, astep_pan, putA_some, putA_none, aval_tmp, aval_const, aval_global, aval_func, aop_move, aop_assign, aop_box, obox_some, aop_fieldAddr, aop_load, aop_store, aop_bin, aop_call, aop_len, aop_max, omax_int, List.length_set, getD_set_self, getD_set_ne, List.length_cons, List.length_nil, List.nil_append, List.cons_append, List.set_cons_zero, List.set_cons_succ, Nat.zero_add, Nat.add_zero, List.drop_succ_cons, List.drop_zero, List.take_succ_cons, List.take_zero, splice, List.all_cons, List.all_nil, AV.one, Bool.and_true, Bool.and_self, and_self, if_true, if_false, reduceCtorEq, Bool.not_true, Bool.not_false, Bool.true_and, Bool.false_and, VT.enc, hb, htm, hret, hnor, h00, build24z, obin_eq24, ocall_fn code106, h106] at hq)
  all_goals (subst hq; rw [gives_some, ret_int]; clear h106 h107 hret hnor htm h00 hfr hfin; simp_all [numCheck])
  all_goals (cases hz : (!ng && d == ⟨#[48]⟩ && e == 0) <;> simp_all)
  all_goals (rw [eq_comm, Bool.cond_eq_ite, if_neg]; simp; omega)
theorem con66 (ng : Bool) (d : ByteArray) (e : Int) (hd : d.size ≤ 2 ^ 46) (H : Heap) : Con E 66 [.agg [.v (.bool ng), .v (.string d), .v (.int .i64 e)]] H (.ret (.v (.int .i64 (numCheck ng d e)))) H :=
  con_walk goodE mixed (told_ok ok106 (told_ok ok107 noCall_ok)) code66 rfl rfl (by
    cases hdg : digitsB d with
    | true => exact walk66true (n := 0) ng d e hdg (fun H => by rw [told_self, ← hdg]; exact specOf_eq enc1_inj hd) (fun H => by rw [told_ne (by decide), told_self]; exact specOf_eq (a := (d, _)) enc2_inj ⟨hd, (show ByteArray.size ⟨#[48]⟩ ≤ 2 ^ 46 from by decide)⟩)
    | false => exact walk66false (n := 0) ng d e hdg (fun H => by rw [told_self, ← hdg]; exact specOf_eq enc1_inj hd) (fun H => by rw [told_ne (by decide), told_self]; exact specOf_eq (a := (d, _)) enc2_inj ⟨hd, (show ByteArray.size ⟨#[48]⟩ ≤ 2 ^ 46 from by decide)⟩)) H
end Go.AI.Jx
end
section
set_option linter.all false
set_option maxRecDepth 100000
namespace Go.AI.Jx
open Go Go.Proofs

def noOrcE : Orc := fun _ => none
theorem noOrcE_ok : OrcOk E noOrcE := fun f c h => by cases h
theorem con_e {orc : Orc} (hO : OrcOk E orc) {f : FuncId} {args : List AV} {R : AEnd} {n : Nat} (ha : AV.underL 0 args = true) (h : acall E orc n f args [] = some (R, [])) (H : Heap) : Con E f args H R H :=
  con_frame goodE ha (fun g w vs I ra => acall_calls goodE mixed hO n f args [] R [] h g w vs I ra) H

mutual
theorem enc_inj : ∀ (v w : VT), v.enc = w.enc → v = w
  | .mk k f n d e b t ns l, .mk k' f' n' d' e' b' t' ns' l', h => by
    simp only [VT.enc, List.cons.injEq, AV.v.injEq, Value.int.injEq, Value.bool.injEq, Value.string.injEq, AV.sl.injEq, true_and, and_true] at h
    obtain ⟨rfl, rfl, rfl, rfl, rfl, rfl, rfl, ⟨_, h8⟩, _, h9⟩ := h
    have e8 : ns = ns' := by
      have hi : Function.Injective (fun s : ByteArray => AV.v (.string s)) := fun a b h => by simpa using h
      exact (List.map_inj_right (fun a b h => by simpa using h)).1 h8
    have e9 := encL_inj l l' h9
    rw [e8, e9]
theorem encL_inj : ∀ (l m : List VT), VT.encL l = VT.encL m → l = m
  | [], [], _ => rfl
  | [], w :: ws, h => by
    have := congrArg List.length h
    simp only [VT.encL, List.length_append, enc_length, List.length_nil] at this
    omega
  | v :: vs, [], h => by
    have := congrArg List.length h
    simp only [VT.encL, List.length_append, enc_length, List.length_nil] at this
    omega
  | v :: vs, w :: ws, h => by
    simp only [VT.encL] at h
    obtain ⟨h1, h2⟩ := List.append_inj h (by rw [enc_length, enc_length])
    rw [enc_inj v w h1, encL_inj vs ws h2]
end
def encV (v : VT) : List AV := [.agg v.enc]
theorem encV_inj (v w : VT) (h : encV v = encV w) : v = w := by
  simp only [encV, List.cons.injEq, AV.agg.injEq, and_true] at h
  exact enc_inj v w h
theorem encV_under (v : VT) : AV.underL 0 (encV v) = true := by
  simp only [encV, AV.underL, AV.under, enc_under v]; rfl
def small (v : VT) : Prop := v.need < 2 ^ 40
theorem con34 (v : VT) (hv : small v) (H : Heap) : Con E 34 [.agg v.enc] H (.ret (.v (.bool v.short))) H :=
  con_e noOrcE_ok (encV_under v) (short_ok noOrcE rfl rfl rfl rfl rfl rfl rfl v hv v.need (Nat.le_refl _) [] rfl) H
theorem con35 (v : VT) (hv : small v) (H : Heap) : Con E 35 [.agg v.enc] H (.ret (.v (goInt v.depth))) H :=
  con_e noOrcE_ok (encV_under v) (depth_ok noOrcE rfl v hv v.need (Nat.le_refl _) [] rfl) H
theorem con36 (v : VT) (hv : small v) (H : Heap) : Con E 36 [.agg v.enc] H (.ret (.v (goInt v.size))) H :=
  con_e noOrcE_ok (encV_under v) (size_ok noOrcE rfl v hv v.need (Nat.le_refl _) [] rfl) H
noncomputable def s34 : Spec := specOf encV small fun v => .ret (.v (.bool v.short))
theorem ok34 : SpecOk E 34 s34 := specOf_ok fun v hv H => con34 v hv H
noncomputable def s35 : Spec := specOf encV small fun v => .ret (.v (goInt v.depth))
theorem ok35 : SpecOk E 35 s35 := specOf_ok fun v hv H => con35 v hv H
noncomputable def s36 : Spec := specOf encV small fun v => .ret (.v (goInt v.size))
theorem ok36 : SpecOk E 36 s36 := specOf_ok fun v hv H => con36 v hv H

/-! ### utf.Valid, value.names -/
theorem valid_ok : ValidOk (orcL [(108, s108)]) valid := fun n s H hs => by
  rw [acall_orc (s := s108) rfl]
  exact s108_at hs
theorem orc108_ok : OrcOk E (orcL [(108, s108)]) := orcL_ok fun p hp => by
  simp only [List.mem_cons, List.not_mem_nil, or_false] at hp
  subst hp; exact ok108
theorem con67 (s : ByteArray) (hs : s.size ≤ 2 ^ 46) (H : Heap) : Con E 67 [.v (.string s)] H (.ret (.v (.bool (valid s)))) H :=
  con_e orc108_ok rfl (valid67 rfl valid_ok 0 [] rfl s hs) H
noncomputable def s67 : Spec := specOf enc1 (fun s => s.size ≤ 2 ^ 46) fun s => .ret (.v (.bool (valid s)))
theorem ok67 : SpecOk E 67 s67 := specOf_ok fun s hs H => con67 s hs H
def encN (ns : List ByteArray) : List AV := [.sl ns.length (namesA ns)]
theorem encN_inj (a b : List ByteArray) (h : encN a = encN b) : a = b := by
  simp only [encN, List.cons.injEq, AV.sl.injEq, and_true] at h
  exact (List.map_inj_right (fun a b h => by simpa using h)).1 h.2
theorem names_under (ns : List ByteArray) : AV.underL 0 (namesA ns) = true := by
  unfold namesA
  induction ns with
  | nil => rfl
  | cons s r ih => simpa [AV.underL, AV.under] using ih
def smallN (ns : List ByteArray) : Prop := ns.length < 2 ^ 40 ∧ ∀ s ∈ ns, s.size ≤ 2 ^ 46
theorem con68 (ns : List ByteArray) (hn : smallN ns) (H : Heap) : Con E 68 [.sl ns.length (namesA ns)] H (.ret (.v (.bool (namesB valid [] ns)))) H :=
  con_e orc108_ok (by simp only [AV.underL, AV.under, names_under]; rfl) (names_ok rfl rfl valid_ok ns hn.1 (ns.length + 1) (by omega) [] rfl hn.2) H
noncomputable def s68 : Spec := specOf encN smallN fun ns => .ret (.v (.bool (namesB valid [] ns)))
theorem ok68 : SpecOk E 68 s68 := specOf_ok fun s hs H => con68 s hs H
def enc24 (p : Bool × ByteArray × Int) : List AV := [.agg [.v (.bool p.1), .v (.string p.2.1), .v (.int .i64 p.2.2)]]
theorem enc24_inj (a b : Bool × ByteArray × Int) (h : enc24 a = enc24 b) : a = b := by
  simp only [enc24, List.cons.injEq, AV.agg.injEq, AV.v.injEq, Value.bool.injEq, Value.string.injEq, Value.int.injEq, true_and, and_true] at h
  exact Prod.ext h.1 (Prod.ext h.2.1 h.2.2)
noncomputable def s66 : Spec := specOf enc24 (fun p => p.2.1.size ≤ 2 ^ 46) fun p => .ret (.v (.int .i64 (numCheck p.1 p.2.1 p.2.2)))
theorem ok66 : SpecOk E 66 s66 := specOf_ok fun p hp H => con66 p.1 p.2.1 p.2.2 hp H

/-! ### value.formed -/
theorem any_not_formed : ∀ l : List VT, l.any (fun x => !VT.formed valid numCheck x) = !VT.formedL valid numCheck l
  | [] => rfl
  | v :: vs => by simp [VT.formedL, any_not_formed vs]
theorem walk70 {call : CallFn} {n : Nat} (x : VT) (h33 : ∀ H, call 33 [.agg x.enc] H = some (.ret (.v (.bool (VT.formed valid numCheck x))), H)) : Gives (abody E call n Tryz.f70 (Tryz.f70.body.get!) [.agg x.enc] []) (.ret (.v (.bool (!VT.formed valid numCheck x)))) := by
  obtain ⟨k, f, ng, d, e, b, t, ns, l⟩ := x
  simp only [VT.enc] at h33
  rw [abody_K]
  obtain ⟨tm0, htm, h00, hfr⟩ : ∃ tm0 : List AV, tm0.length = 6 ∧ tm0.getD 0 (.v undef) = .agg (VT.enc (.mk k f ng d e b t ns l)) ∧ aframe E Tryz.f70 [.agg (VT.enc (.mk k f ng d e b t ns l))] [] = ⟨tm0, [], []⟩ := ⟨_, rfl, rfl, rfl⟩
  rw [hfr]
  obtain ⟨fin, hfin, hret, hnor⟩ : ∃ fin, fin = afin E call n Tryz.f70 ∧ (∀ tm H, fin (some (.ret, ⟨tm, [], H⟩)) = some (.ret (tm.getD 2 (.v undef)), H)) ∧ ∀ tm H, fin (some (.normal, ⟨tm, [], H⟩)) = some (.ret (tm.getD 2 (.v undef)), H) := ⟨_, rfl, fun _ _ => rfl, fun _ _ => rfl⟩
  rw [← hfin]
  generalize hq : aK E call n fin [] (acode E call n (Tryz.f70.body.get!) ⟨tm0, [], []⟩) = q
  simp [Tryz.f70] at hq
  have hb : (Code.skip = Code.skip) ↔ True := by simp
  repeat' (first
    | (simp only [cond_iff, guardT_iff, guardF_iff, aret_iff, kguardT_iff, kguardF_iff] at hq; rcases hq with ⟨hb, hq⟩ | ⟨hb, hq⟩)
    | simp only [kops_nil, kops_plain, kops_if, kstep_val, kstep_skip, kstep_call, kret_ret, kguard_tt, kguard_ff, kguard_tf, kguard_ft, kguard_un, kone_plain, koneS_val, koneS_skip, koneS_call, koneR_ret, aK_seq, aK_block, aK_region, aK_skip, aK_exit, aK_ret, aK_loop, aK_seq_n, aK_seq_e, aK_seq_r, aK_seq_p, aK_blk_n, aK_blk_e, aK_blk_r, aK_blk_p, aK_nil_n, aK_nil_e, aK_nil_r, aK_nil_p, aK_cond, abr_true, abr_false, astep_call, aret_ret, aret_pan, astep_dfr, afin_ret, afin_normal, afin_pan, oload_p, oloadO_box, oload_ep, aload_eq, oload1_one, oload1_agg, ostore_p, ostoreO_box, astore_eq, ostore1_some, cells_int, cells_bool, cells_string, cells_sl, cells_asl, cells_ptr, cells_mp, cells_agg, cells_ifc, cells_fn, cells_slice, cells_nilIface, cells_pointer, ofield_ptr, ofield_ep, aop_field, aop_nilCheck, onil_ptr, aop_extract, oext_tup, aop_makeFunc, aop_alloc', oalloc_some, aop_panic, opan_ifc, cond_bool, cond_int, cond_str, obin_seq, obin_sne, oc_lss, oc_leq, oc_gtr, oc_geq, oc_eql, oc_neq, oa_add, oa_sub, oa_mul, olen_str, tyL, tyA, tyS, tyU, tyF, aop_lookup, aop_update, aop_makeMap, aop_un, oun_not, aops_if, aguard_tt, aguard_ff, aguard_tf, aguard_ft, aguard_un, gslot, gval_some, aop_pick, opick_bool, cond_true, cond_false, List.getElem?_toArray, List.getElem?_cons_succ, List.getElem?_cons_zero, Option.bind_some, goInt, conv, convA, conv1, List.toList_toArray, Option.get!_some, ne_eq, not_false_eq_true, decide_false, decide_true, Int.reduceLT, Int.reduceLE, Int.reduceGT, Int.reduceGE, Int.reduceEq, Int.reduceBEq, Int.reduceBNe, Int.reduceNeg, Nat.reduceEqDiff, Nat.reduceLT, Nat.reduceAdd, Nat.reduceLeDiff, Option.map_some, List.map_cons, List.map_nil, aops_nil, aops_plain, astep_val, astep_skip, astep_pan, putA_some, putA_none, aval_tmp, aval_const, aval_global, aval_func, aop_move, aop_assign, aop_box, obox_some, aop_fieldAddr, aop_load, aop_store, aop_bin, aop_call, aop_len, aop_max, omax_int, List.length_set, getD_set_self, getD_set_ne, List.length_cons, List.length_nil, List.nil_append, List.cons_append, List.set_cons_zero, List.set_cons_succ, Nat.zero_add, Nat.add_zero, List.drop_succ_cons, List.drop_zero, List.take_succ_cons, List.take_zero, splice, List.all_cons, List.all_nil, AV.one, Bool.and_true, Bool.and_self, and_self, if_true, if_false, reduceCtorEq, Bool.not_true, Bool.not_false, Bool.true_and, Bool.false_and, VT.enc, hb, htm, hret, hnor, h00, ocall_fn code33, h33] at hq)
  all_goals (subst hq; rw [gives_some])
theorem need_lt {v : VT} {k f n d e b t ns l} (h : v = .mk k f n d e b t ns l) : ∀ x ∈ l, x.need < v.need := fun x hx => by
  have := need_mem hx
  subst h
  simp only [VT.need]; omega
theorem le_sum {s : ByteArray} : ∀ {ns : List ByteArray}, s ∈ ns → s.size ≤ (ns.map ByteArray.size).sum
  | x :: xs, h => by
    simp only [List.map_cons, List.sum_cons]
    rcases List.mem_cons.1 h with rfl | h
    · omega
    · have := le_sum h; omega
theorem sizes {k f n d e b t ns l} (hv : small (.mk k f n d e b t ns l)) : d.size ≤ 2 ^ 46 ∧ t.size ≤ 2 ^ 46 ∧ smallN ns ∧ l.length < 2 ^ 40 := by
  simp only [small, VT.need] at hv
  refine ⟨by omega, by omega, ⟨by omega, fun s hs => ?_⟩, by omega⟩
  have : s.size ≤ (ns.map ByteArray.size).sum := le_sum hs
  omega
theorem con33 : ∀ (N : Nat) (v : VT), v.need < N → small v → ∀ H, Con E 33 [.agg v.enc] H (.ret (.v (.bool (VT.formed valid numCheck v)))) H
  | 0, v, h, _ => by omega
  | N + 1, v, h, hv => by
    have ih := con33 N
    obtain ⟨k, f, ng, d, e, b, t, ns, l⟩ := v
    obtain ⟨hd, ht, hns, hl⟩ := sizes hv
    have hsub : ∀ x ∈ l, x.need < N ∧ small x := fun x hx => by
      have := need_lt (v := .mk k f ng d e b t ns l) rfl x hx
      exact ⟨by omega, by unfold small at *; omega⟩
    let s33 : Spec := specOf encV (fun x => x.need < N ∧ small x) fun v => .ret (.v (.bool (VT.formed valid numCheck v)))
    have ok33 : SpecOk E 33 s33 := specOf_ok fun v hv H => ih v hv.1 hv.2 H
    let s70 : Spec := specOf encV (fun x => x.need < N ∧ small x) fun v => .ret (.v (.bool (!VT.formed valid numCheck v)))
    have ok70 : SpecOk E 70 s70 := specOf_ok fun v hv H =>
      con_walk goodE mixed (told_ok ok33 noCall_ok) code70 (encV_under v) rfl (walk70 (n := 0) v fun H => by rw [told_self]; exact specOf_eq (a := v) encV_inj hv) H
    let orc := orcL [(70, s70), (66, s66), (67, s67), (68, s68)]
    have hO : OrcOk E orc := orcL_ok fun p hp => by
      simp only [List.mem_cons, List.not_mem_nil, or_false] at hp
      rcases hp with rfl | rfl | rfl | rfl
      · exact ok70
      · exact ok66
      · exact ok67
      · exact ok68
    intro H
    refine con_walk goodE mixed (acall_calls goodE mixed hO (l.length + 4)) code33 (encV_under _) rfl (formed_walk (n := 0) valid numCheck ?_ ?_ k f ng d e b t ns l ?_ ?_ hd ht) H
    · intro n d e H hd; rw [acall_orc (s := s66) rfl]; exact specOf_eq (a := (n, d, e)) enc24_inj hd
    · intro s H hs; rw [acall_orc (s := s67) rfl]; exact specOf_eq (a := s) enc1_inj hs
    · intro H; rw [acall_orc (s := s68) rfl]; exact specOf_eq (a := ns) encN_inj hns
    · intro H hH
      have := contains69 orc rfl rfl 70 _ code70 (fun x => !VT.formed valid numCheck x) l hl (l.length + 2) (by omega) H hH (fun x hx => by
        rw [acall_orc (s := s70) rfl]; exact specOf_eq (a := x) encV_inj (hsub x hx))
      rw [any_not_formed] at this
      exact this
noncomputable def s33 : Spec := specOf encV small fun v => .ret (.v (.bool (VT.formed valid numCheck v)))
theorem ok33 : SpecOk E 33 s33 := specOf_ok fun v hv H => con33 (v.need + 1) v (by omega) hv H

/-! ### value.Check -/
def VT.check (v : VT) : Int := bif !VT.formed valid numCheck v then 40 else bif !v.short || decide ((v.depth : Int) > 16) || decide ((v.size : Int) > 4096) then 2 else 0
theorem walk21 {call : CallFn} {n : Nat} (v : VT) (h33 : ∀ H, call 33 [.agg v.enc] H = some (.ret (.v (.bool (VT.formed valid numCheck v))), H)) (h34 : ∀ H, call 34 [.agg v.enc] H = some (.ret (.v (.bool v.short)), H))
    (h35 : ∀ H, call 35 [.agg v.enc] H = some (.ret (.v (goInt v.depth)), H)) (h36 : ∀ H, call 36 [.agg v.enc] H = some (.ret (.v (goInt v.size)), H)) : Gives (abody E call n Tryz.f21 (Tryz.f21.body.get!) [.agg v.enc] []) (.ret (.v (.int .i64 v.check))) := by
  unfold VT.check
  generalize VT.formed valid numCheck v = fo at *
  generalize v.short = sh at *
  generalize v.depth = de at *
  generalize v.size = si at *
  obtain ⟨k, f, ng, d, e, b, t, ns, l⟩ := v
  simp only [VT.enc, goInt] at h33 h34 h35 h36
  rw [abody_K]
  obtain ⟨tm0, htm, h00, hfr⟩ : ∃ tm0 : List AV, tm0.length = 21 ∧ tm0.getD 0 (.v undef) = .agg (VT.enc (.mk k f ng d e b t ns l)) ∧ aframe E Tryz.f21 [.agg (VT.enc (.mk k f ng d e b t ns l))] [] = ⟨tm0, [], []⟩ := ⟨_, rfl, rfl, rfl⟩
  rw [hfr]
  obtain ⟨fin, hfin, hret, hnor⟩ : ∃ fin, fin = afin E call n Tryz.f21 ∧ (∀ tm H, fin (some (.ret, ⟨tm, [], H⟩)) = some (.ret (tm.getD 2 (.v undef)), H)) ∧ ∀ tm H, fin (some (.normal, ⟨tm, [], H⟩)) = some (.ret (tm.getD 2 (.v undef)), H) := ⟨_, rfl, fun _ _ => rfl, fun _ _ => rfl⟩
  rw [← hfin]
  generalize hq : aK E call n fin [] (acode E call n (Tryz.f21.body.get!) ⟨tm0, [], []⟩) = q
  simp [Tryz.f21] at hq
  have hb : (Code.skip = Code.skip) ↔ True := by simp
  repeat' (first
    | (simp only [cond_iff, guardT_iff, guardF_iff, aret_iff, kguardT_iff, kguardF_iff] at hq; rcases hq with ⟨hb, hq⟩ | ⟨hb, hq⟩)
    | simp only [kops_nil, kops_plain, kops_if, kstep_val, kstep_skip, kstep_call, kret_ret, kguard_tt, kguard_ff, kguard_tf, kguard_ft, kguard_un, kone_plain, koneS_val, koneS_skip, koneS_call, koneR_ret, aK_seq, aK_block, aK_region, aK_skip, aK_exit, aK_ret, aK_loop, aK_seq_n, aK_seq_e, aK_seq_r, aK_seq_p, aK_blk_n, aK_blk_e, aK_blk_r, aK_blk_p, aK_nil_n, aK_nil_e, aK_nil_r, aK_nil_p, aK_cond, abr_true, abr_false, astep_call, aret_ret, aret_pan, astep_dfr, afin_ret, afin_normal, afin_pan, oload_p, oloadO_box, oload_ep, aload_eq, oload1_one, oload1_agg, ostore_p, ostoreO_box, astore_eq, ostore1_some, cells_int, cells_bool, cells_string, cells_sl, cells_asl, cells_ptr, cells_mp, cells_agg, cells_ifc, cells_fn, cells_slice, cells_nilIface, cells_pointer, ofield_ptr, ofield_ep, aop_field, aop_nilCheck, onil_ptr, aop_extract, oext_tup, aop_makeFunc, aop_alloc', oalloc_some, aop_panic, opan_ifc, cond_bool, cond_int, cond_str, obin_seq, obin_sne, oc_lss, oc_leq, oc_gtr, oc_geq, oc_eql, oc_neq, oa_add, oa_sub, oa_mul, olen_str, tyL, tyA, tyS, tyU, tyF, aop_lookup, aop_update, aop_makeMap, aop_un, oun_not, aops_if, aguard_tt, aguard_ff, aguard_tf, aguard_ft, aguard_un, gslot, gval_some, aop_pick, opick_bool, cond_true, cond_false, List.getElem?_toArray, List.getElem?_cons_succ, List.getElem?_cons_zero, Option.bind_some, goInt, conv, convA, conv1, List.toList_toArray, Option.get!_some, ne_eq, not_false_eq_true, decide_false, decide_true, Int.reduceLT, Int.reduceLE, Int.reduceGT, Int.reduceGE, Int.reduceEq, Int.reduceBEq, Int.reduceBNe, Int.reduceNeg, Nat.reduceEqDiff, Nat.reduceLT, Nat.reduceAdd, Nat.reduceLeDiff, Option.map_some, List.map_cons, List.map_nil, aops_nil, aops_plain, astep_val, astep_skip, astep_pan, putA_some, putA_none, aval_tmp, aval_const, aval_global, aval_func, aop_move, aop_assign, aop_box, obox_some, aop_fieldAddr, aop_load, aop_store, aop_bin, aop_call, aop_len, aop_max, omax_int, List.length_set, getD_set_self, getD_set_ne, List.length_cons, List.length_nil, List.nil_append, List.cons_append, List.set_cons_zero, List.set_cons_succ, Nat.zero_add, Nat.add_zero, List.drop_succ_cons, List.drop_zero, List.take_succ_cons, List.take_zero, splice, List.all_cons, List.all_nil, AV.one, Bool.and_true, Bool.and_self, and_self, if_true, if_false, reduceCtorEq, Bool.not_true, Bool.not_false, Bool.true_and, Bool.false_and, VT.enc, hb, htm, hret, hnor, h00, ocall_fn code33, ocall_fn code34, ocall_fn code35, ocall_fn code36, h33, h34, h35, h36] at hq)
  all_goals (subst hq; rw [gives_some, ret_int]; clear h33 h34 h35 h36 hret hnor htm h00 hfr hfin; simp_all)
  all_goals (rw [eq_comm, Bool.cond_eq_ite, if_neg]; simp; omega)
theorem con21 (v : VT) (hv : small v) (H : Heap) : Con E 21 [.agg v.enc] H (.ret (.v (.int .i64 v.check))) H :=
  con_walk goodE mixed (told_ok ok33 (told_ok ok34 (told_ok ok35 (told_ok ok36 noCall_ok)))) code21 (encV_under v) rfl (walk21 (n := 0) v
    (fun H => by rw [told_self]; exact specOf_eq (a := v) encV_inj hv) (fun H => by rw [told_ne (by decide), told_self]; exact specOf_eq (a := v) encV_inj hv)
    (fun H => by rw [told_ne (by decide), told_ne (by decide), told_self]; exact specOf_eq (a := v) encV_inj hv) (fun H => by rw [told_ne (by decide), told_ne (by decide), told_ne (by decide), told_self]; exact specOf_eq (a := v) encV_inj hv)) H
noncomputable def s21 : Spec := specOf encV small fun v => .ret (.v (.int .i64 v.check))
theorem ok21 : SpecOk E 21 s21 := specOf_ok fun v hv H => con21 v hv H
end Go.AI.Jx
end

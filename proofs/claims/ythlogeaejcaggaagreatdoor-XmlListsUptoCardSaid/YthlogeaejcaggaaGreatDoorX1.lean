/- A part of the proof: JxEnv, JxVal, JxDepth, JxSize, JxMany, JxParts, JxFunc, JxFuncN, JxShort, JxNames, JxGood, JxEq, JxTypes. -/
import Derived.Test.YthlogeaejcaggaaGreatDoorProg
import Derived.KernelRfl
import Derived.Test.YthlogeaejcaggaaGreatDoorA2
import Derived.Test.YthlogeaejcaggaaGreatDoorA3
set_option linter.all false
section
namespace Go.AI.Jx
open Go Go.Proofs

def glob : Nat → List AV
  | 0 => (List.replicate 128 0xF0 ++ List.replicate 66 0xF1 ++ List.replicate 30 0x02 ++ [0x13] ++ List.replicate 12 0x03 ++ [0x23,0x03,0x03,0x34,0x04,0x04,0x04,0x44] ++ List.replicate 11 0xF1).map fun (n : Nat) => .v (.int .u8 n)
  | 1 => ([128,191,160,191,128,159,144,191,128,143] ++ List.replicate 22 0).map fun (n : Nat) => .v (.int .u8 n)
  | 2 => [1, 10, 100, 1000, 10000, 100000, 1000000, 10000000, 100000000, 1000000000, 10000000000, 100000000000, 1000000000000, 10000000000000, 100000000000000, 1000000000000000, 10000000000000000, 100000000000000000, 1000000000000000000, 10000000000000000000].map fun n => .v (.int .u64 n)
  | 6 => [0, 1, 28, 2, 29, 14, 24, 3, 30, 22, 20, 15, 25, 17, 4, 8, 31, 27, 13, 23, 21, 19, 16, 7, 26, 12, 18, 6, 11, 5, 10, 9].map fun (n : Nat) => .v (.int .u8 n)
  | 7 => [0, 1, 56, 2, 57, 49, 28, 3, 61, 58, 42, 50, 38, 29, 17, 4, 62, 47, 59, 36, 45, 43, 51, 22, 53, 39, 33, 30, 24, 18, 12, 5, 63, 55, 48, 27, 60, 41, 37, 16, 46, 35, 44, 21, 52, 32, 23, 11, 54, 26, 40, 15, 34, 20, 31, 10, 25, 14, 19, 9, 13, 8, 7, 6].map fun (n : Nat) => .v (.int .u8 n)
  | _ => []

noncomputable def code (g : Nat) : Option (Func × Code) := match Tryz.prog.funcs[g]? with
  | some fn => match fn.body with
    | some c => some (fn, c)
    | none => none
  | none => none

noncomputable def ext (g : FuncId) (vs : List Value) : Option Value := match quiet Tryz.prog (callFunc g vs.toArray) with
  | some (.value r) => some r
  | _ => none

/-- For closed calls: what is the same is reckoned. -/
noncomputable def Ek : Env := Env.mk Tryz.prog code (fun g => g == 111) ext glob avEq heapEq
open Classical in
/-- For calls at values not told. -/
noncomputable def E : Env := Env.mk Tryz.prog code (fun g => g == 111) ext glob (fun a b => decide (a = b)) (fun a b => decide (a = b))

def orc : Orc := fun f => if f = 76 then some fun _ args H => match args with
    | [.v (.string s), .v (.int .i64 n)] => some (.ret (.v (.string ⟨(List.replicate n.toNat s.data.toList).flatten.toArray⟩)), H)
    | _ => none
  else none

end Go.AI.Jx
end
section
set_option linter.all false
set_option linter.unusedSimpArgs false
namespace Go.AI.Jx
open Go Go.Proofs

/-- A value as it is handed in. -/
inductive VT where
  | mk (kind : Int) (flag neg : Bool) (digits : ByteArray) (exp : Int) (bits : Int) (text : ByteArray) (names : List ByteArray) (list : List VT)

mutual
def VT.enc : VT → List AV
  | .mk k f n d e b t ns l => [.v (.int .i64 k), .v (.bool f), .v (.bool n), .v (.string d), .v (.int .i64 e), .v (.int .u64 b), .v (.string t), .sl ns.length (ns.map fun s => .v (.string s)), .sl l.length (VT.encL l)]
def VT.encL : List VT → List AV
  | [] => []
  | v :: vs => VT.enc v ++ VT.encL vs
end

theorem und27 : E.P.underlying 27 = some (.slice 29) := by kernel_rfl
theorem size29 : sizeT E.P 29 = some 9 := by kernel_rfl
theorem agg29 : isAggT E.P 29 = some true := by kernel_rfl
theorem size27 : sizeT E.P 27 = some 1 := by kernel_rfl
theorem agg27 : isAggT E.P 27 = some false := by kernel_rfl

theorem enc_length (v : VT) : v.enc.length = 9 := by cases v; rfl
theorem encL_length : ∀ l : List VT, (VT.encL l).length = l.length * 9
  | [] => rfl
  | v :: vs => by simp [VT.encL, encL_length vs, enc_length]; omega
theorem encL_drop : ∀ (l : List VT) (i : Nat), (VT.encL l).drop (i * 9) = VT.encL (l.drop i)
  | l, 0 => by simp
  | [], i + 1 => by simp [VT.encL]
  | v :: vs, i + 1 => by
    have : (i + 1) * 9 = 9 + i * 9 := by omega
    rw [this, VT.encL, ← List.drop_drop, show 9 = v.enc.length from (enc_length v).symm, List.drop_left, enc_length, encL_drop vs i]
    rfl

def sub : List Nat → Code → Code
  | [], c => c
  | 0 :: p, .seq a _ => sub p a
  | 1 :: p, .seq _ b => sub p b
  | 0 :: p, .cond _ a _ => sub p a
  | 1 :: p, .cond _ _ b => sub p b
  | 0 :: p, .block _ b => sub p b
  | 0 :: p, .loop b => sub p b
  | _, c => c


mutual
theorem enc_under : ∀ (v : VT), AV.underL 0 v.enc = true
  | .mk k f n d e b t ns l => by
    simp only [VT.enc, AV.underL, AV.under, Bool.and_true, Bool.true_and, encL_under l]
    induction ns with
    | nil => rfl
    | cons s ns ih => simpa [AV.underL, AV.under] using ih
theorem encL_under : ∀ (l : List VT), AV.underL 0 (VT.encL l) = true
  | [] => rfl
  | v :: vs => by rw [VT.encL, underL_append, enc_under v, encL_under vs]; rfl
end

theorem aload29 {v : VT} {cs : List AV} : aload E.P 29 (v.enc ++ cs) 0 = some (.agg v.enc) := by
  have h := enc_length v
  unfold aload
  rw [agg29, size29]
  simp only [List.drop_zero, List.length_append, h, Nat.zero_add]
  rw [if_pos (by omega), show 9 = v.enc.length from h.symm, List.take_left]

theorem enc_one (v : VT) : v.enc.all AV.one = true := by cases v; rfl

theorem idx27 {l : List VT} {i : Nat} {H : Heap} (h : i < l.length) : oindex E.P 27 H (.sl l.length (VT.encL l)) (.v (.int .i64 (i : Int))) = some (.val (.ep (VT.encL (l.drop i))), H) := by
  rw [oindex_sl (size := 8) und27 size29 (by omega) (by omega) (by rw [encL_length]; omega)]
  simp only [Int.toNat_natCast]
  rw [encL_drop]

theorem load29_ep {l : List VT} {i : Nat} {x : VT} {H : Heap} (h : l[i]? = some x) : oload E.P 29 H (.ep (VT.encL (l.drop i))) = some (.val (.agg x.enc), H) := by
  obtain ⟨hi, rfl⟩ := List.getElem?_eq_some_iff.1 h
  rw [List.drop_eq_getElem_cons hi]
  simp only [oload, VT.encL, aload29, Option.map_some]

theorem load29_new {v : VT} {H : Heap} : oload E.P 29 (H ++ [.box 29 v.enc]) (.ptr H.length 0) = some (.val (.agg v.enc), H ++ [.box 29 v.enc]) := by
  have := aload29 (v := v) (cs := [])
  rw [List.append_nil] at this
  have hH : (H ++ [AObj.box 29 v.enc])[H.length]? = some (.box 29 v.enc) := by simp
  rw [oload_ptr hH, this]
  rfl

def zero29 : List AV := [.v (.int .i64 0), .v (.bool false), .v (.bool false), .v (.string ⟨#[]⟩), .v (.int .i64 0), .v (.int .u64 0), .v (.string ⟨#[]⟩), .v (.slice none 0 0), .v (.slice none 0 0)]

theorem alloc29 {H : Heap} {dst : Option Tmp} {ty : TypeId} {pos : String} {after : Array Edge} {gd : Option (Nat × Bool)} {ρ : Operand → AV} : aop E ρ ⟨dst, .alloc 29, ty, pos, after, gd⟩ H = some (.val (.ptr H.length 0), H ++ [.box 29 zero29]) := by kernel_rfl

theorem store29_new {v : VT} {H : Heap} : ostore E.P 29 (H ++ [.box 29 zero29]) (.ptr H.length 0) (.agg v.enc) = some (.skip, H ++ [.box 29 v.enc]) := by
  have h9 := enc_length v
  have ha : astore E.P 29 zero29 0 (.agg v.enc) = some v.enc := by
    unfold astore
    rw [size29]
    simp only [AV.cells?]
    rw [if_pos ⟨h9, by simp [zero29], enc_one v⟩]
    simp [splice, zero29, h9]
  simp [ostore, ha]

mutual
def VT.need : VT → Nat
  | .mk _ _ _ d _ _ t ns l => VT.needL l + l.length + ns.length + (ns.map ByteArray.size).sum + t.size + d.size + 8
def VT.needL : List VT → Nat
  | [] => 0
  | v :: vs => VT.need v + VT.needL vs
end

theorem need_mem : ∀ {l : List VT} {x : VT}, x ∈ l → x.need ≤ VT.needL l
  | y :: ys, x, h => by
    rcases List.mem_cons.1 h with rfl | h
    · simp [VT.needL]
    · have := need_mem h; simp [VT.needL]; omega

theorem und29 : E.P.underlying 29 = some (Option.get! (E.P.underlying 29)) := by kernel_rfl
theorem field6 {H : Heap} {id off : Nat} : ofield E.P 29 6 H (.ptr id off) = some (.val (.ptr id (off + 8)), H) := by kernel_rfl

theorem load27 {k f n d e b t ns} {l : List VT} {H : Heap} : oload E.P 27 (H ++ [.box 29 (VT.enc (.mk k f n d e b t ns l))]) (.ptr H.length (0 + 8)) = some (.val (.sl l.length (VT.encL l)), H ++ [.box 29 (VT.enc (.mk k f n d e b t ns l))]) := by
  have hH : (H ++ [AObj.box 29 (VT.enc (.mk k f n d e b t ns l))])[H.length]? = some (.box 29 (VT.enc (.mk k f n d e b t ns l))) := by simp
  rw [oload_ptr hH]
  simp [aload, agg27, size27, VT.enc]

end Go.AI.Jx
end
section
set_option linter.all false
namespace Go.AI.Jx
open Go Go.Proofs

mutual
def VT.depth : VT → Nat
  | .mk _ _ _ _ _ _ _ _ l => VT.depthL l + 1
def VT.depthL : List VT → Nat
  | [] => 0
  | v :: vs => max (VT.depth v) (VT.depthL vs)
end

theorem code35 : E.code 35 = some (Tryz.f35, (Tryz.f35.body).get!) := by kernel_rfl
noncomputable def body35 : Code := sub [1, 1, 0, 1, 0, 0] ((Tryz.f35.body).get!)

theorem depth_loop (call : CallFn) (n : Nat) (l : List VT) (hcall : ∀ x ∈ l, ∀ H, OkH H → call 35 [.agg x.enc] H = some (.ret (.v (goInt x.depth)), H)) (hdep : ∀ x ∈ l, x.depth < 2 ^ 40) : ∀ (k i m : Nat) (tm : List AV) (H ext : Heap), tm.length = 20 → OkH (H ++ ext) →
    tm.getD 7 (.v undef) = .sl l.length (VT.encL l) → tm.getD 8 (.v undef) = .v (.int .i64 l.length) → tm.getD 9 (.v undef) = .v (.int .i64 i) → tm.getD 3 (.v undef) = .v (.int .i64 m) → l.length < 2 ^ 40 → l.length - i < k → i ≤ l.length → m < 2 ^ 40 →
    ∃ tm' ext', aloop (acode E call n body35) k ⟨tm, [], H ++ ext⟩ = some (.exit 0, ⟨tm', [], H ++ ext'⟩) ∧ tm'.length = 20 ∧ OkH (H ++ ext') ∧ tm'.getD 3 (.v undef) = .v (.int .i64 (max m (VT.depthL (l.drop i))))
  | 0, i, m, tm, H, ext, _, _, _, _, _, _, _, h, _, _ => by omega
  | k + 1, i, m, tm, H, ext, htm, hok, h7, h8, h9, h3, hl, hk, hi, hm => by
    rw [aloop_succ]
    by_cases hlt : i < l.length
    · obtain ⟨x, hx⟩ : ∃ x, l[i]? = some x := ⟨l[i], List.getElem?_eq_getElem hlt⟩
      have hok' : OkH ((H ++ ext) ++ [.box 29 x.enc]) := okH_box hok (enc_under x)
      generalize hq : acode E call n body35 ⟨tm, [], H ++ ext⟩ = q
      simp [body35, sub, Tryz.f35] at hq
      simp only [goInt, conv, convA, conv1, List.toList_toArray, Option.get!_some, ne_eq, not_false_eq_true, decide_false, decide_true, Nat.reduceEqDiff, Nat.reduceLT, Option.map_some, List.map_cons, List.map_nil, aops_nil, aops_plain, astep_val, astep_skip, astep_pan, putA_some, putA_none, aval_tmp, aval_const, aval_func, abind_normal, abind_exit, abind_ret, abind_pan, acode_seq, acode_region, acode_skip, acode_exit, acode_ret, acode_block, ablock_normal, ablock_ret, ablock_self, aop_move, aop_assign, aop_box, obox_some, aop_fieldAddr, aop_load, oload_ep, aop_store, aop_bin, obin_lss, obin_add, aop_call, aop_len, aop_max, omax_int, List.length_set, getD_set_self, getD_set_ne, htm, h7, h8, h9, h3, Int.ofNat_lt, hlt, acode_true, aop_index und27, olen_sl und27, ocall_fn code35, astep_enter (hcall x (List.mem_of_getElem? hx) _ hok'), idx27 hlt, load29_ep hx, alloc29, store29_new, load29_new, VT.depth] at hq
      subst hq
      rw [abind_normal, List.append_assoc]
      have hw : IntKind.i64.wrap ((i : Int) + 1) = ((i + 1 : Nat) : Int) := by rw [i64_wrap (by omega) (by omega)]; omega
      have hd : x.depth < 2 ^ 40 := hdep x (List.mem_of_getElem? hx)
      obtain ⟨hi', hx'⟩ := List.getElem?_eq_some_iff.1 hx
      have hmx : VT.depthL (l.drop i) = max x.depth (VT.depthL (l.drop (i + 1))) := by rw [List.drop_eq_getElem_cons hi', hx']; rfl
      have hmax : max (m : Int) ((VT.depthL (l.drop i) : Nat) : Int) = max ((max m x.depth : Nat) : Int) ((VT.depthL (l.drop (i + 1)) : Nat) : Int) := by rw [hmx]; omega
      rw [hmax]
      refine depth_loop call n l hcall hdep k (i + 1) (max m x.depth) _ H (ext ++ [.box 29 x.enc]) ?_ ?_ ?_ ?_ ?_ ?_ hl (by omega) (by omega) (by omega)
      · simp only [List.length_set]; exact htm
      · rw [← List.append_assoc]; exact hok'
      · simp only [goInt, conv, convA, conv1, List.toList_toArray, Option.get!_some, ne_eq, not_false_eq_true, decide_false, decide_true, Nat.reduceEqDiff, Nat.reduceLT, Option.map_some, List.map_cons, List.map_nil, aops_nil, aops_plain, astep_val, astep_skip, astep_pan, putA_some, putA_none, aval_tmp, aval_const, aval_func, abind_normal, abind_exit, abind_ret, abind_pan, acode_seq, acode_region, acode_skip, acode_exit, acode_ret, acode_block, ablock_normal, ablock_ret, ablock_self, aop_move, aop_assign, aop_box, obox_some, aop_fieldAddr, aop_load, oload_ep, aop_store, aop_bin, obin_lss, obin_add, aop_call, aop_len, aop_max, omax_int, List.length_set, getD_set_self, getD_set_ne, htm, h7]
      · simp only [goInt, conv, convA, conv1, List.toList_toArray, Option.get!_some, ne_eq, not_false_eq_true, decide_false, decide_true, Nat.reduceEqDiff, Nat.reduceLT, Option.map_some, List.map_cons, List.map_nil, aops_nil, aops_plain, astep_val, astep_skip, astep_pan, putA_some, putA_none, aval_tmp, aval_const, aval_func, abind_normal, abind_exit, abind_ret, abind_pan, acode_seq, acode_region, acode_skip, acode_exit, acode_ret, acode_block, ablock_normal, ablock_ret, ablock_self, aop_move, aop_assign, aop_box, obox_some, aop_fieldAddr, aop_load, oload_ep, aop_store, aop_bin, obin_lss, obin_add, aop_call, aop_len, aop_max, omax_int, List.length_set, getD_set_self, getD_set_ne, htm, h8]
      · simp only [goInt, conv, convA, conv1, List.toList_toArray, Option.get!_some, ne_eq, not_false_eq_true, decide_false, decide_true, Nat.reduceEqDiff, Nat.reduceLT, Option.map_some, List.map_cons, List.map_nil, aops_nil, aops_plain, astep_val, astep_skip, astep_pan, putA_some, putA_none, aval_tmp, aval_const, aval_func, abind_normal, abind_exit, abind_ret, abind_pan, acode_seq, acode_region, acode_skip, acode_exit, acode_ret, acode_block, ablock_normal, ablock_ret, ablock_self, aop_move, aop_assign, aop_box, obox_some, aop_fieldAddr, aop_load, oload_ep, aop_store, aop_bin, obin_lss, obin_add, aop_call, aop_len, aop_max, omax_int, List.length_set, getD_set_self, getD_set_ne, htm, hw]
      · simp only [goInt, conv, convA, conv1, List.toList_toArray, Option.get!_some, ne_eq, not_false_eq_true, decide_false, decide_true, Nat.reduceEqDiff, Nat.reduceLT, Option.map_some, List.map_cons, List.map_nil, aops_nil, aops_plain, astep_val, astep_skip, astep_pan, putA_some, putA_none, aval_tmp, aval_const, aval_func, abind_normal, abind_exit, abind_ret, abind_pan, acode_seq, acode_region, acode_skip, acode_exit, acode_ret, acode_block, ablock_normal, ablock_ret, ablock_self, aop_move, aop_assign, aop_box, obox_some, aop_fieldAddr, aop_load, oload_ep, aop_store, aop_bin, obin_lss, obin_add, aop_call, aop_len, aop_max, omax_int, List.length_set, getD_set_self, getD_set_ne, htm]
        congr 2
        split <;> omega
    · have : i = l.length := by omega
      subst this
      generalize hq : acode E call n body35 ⟨tm, [], H ++ ext⟩ = q
      simp [body35, sub, Tryz.f35] at hq
      simp only [goInt, conv, convA, conv1, List.toList_toArray, Option.get!_some, ne_eq, not_false_eq_true, decide_false, decide_true, Nat.reduceEqDiff, Nat.reduceLT, Option.map_some, List.map_cons, List.map_nil, aops_nil, aops_plain, astep_val, astep_skip, astep_pan, putA_some, putA_none, aval_tmp, aval_const, aval_func, abind_normal, abind_exit, abind_ret, abind_pan, acode_seq, acode_region, acode_skip, acode_exit, acode_ret, acode_block, ablock_normal, ablock_ret, ablock_self, aop_move, aop_assign, aop_box, obox_some, aop_fieldAddr, aop_load, oload_ep, aop_store, aop_bin, obin_lss, obin_add, aop_call, aop_len, aop_max, omax_int, List.length_set, getD_set_self, getD_set_ne, htm, h8, h9, Int.lt_irrefl, acode_false] at hq
      subst hq
      exact ⟨_, ext, rfl, by simp [htm], hok, by rw [getD_set_ne (by decide), h3]; simp [VT.depthL]⟩

mutual
theorem depth_need : ∀ v : VT, v.depth ≤ v.need
  | .mk _ _ _ _ _ _ _ _ l => by have := depth_needL l; simp [VT.depth, VT.need]; omega
theorem depth_needL : ∀ l : List VT, VT.depthL l ≤ VT.needL l
  | [] => by simp [VT.depthL]
  | v :: vs => by have h1 := depth_need v; have h2 := depth_needL vs; simp [VT.depthL, VT.needL]; omega
end

theorem depth_ok (orc : Orc) (ho : orc 35 = none) : ∀ (v : VT), v.need < 2 ^ 40 → ∀ n, v.need ≤ n → ∀ H, OkH H → acall E orc n 35 [.agg v.enc] H = some (.ret (.v (goInt v.depth)), H)
  | .mk k f ng d e b t ns l, hv, n, hn, H, hH => by
    obtain ⟨n, rfl⟩ : ∃ m, n = m + 1 := ⟨n - 1, by simp only [VT.need] at hn; omega⟩
    have hc : ∀ x ∈ l, ∀ H, OkH H → acall E orc n 35 [.agg x.enc] H = some (.ret (.v (goInt x.depth)), H) := by
      intro x hx
      have := need_mem hx
      exact depth_ok orc ho x (by simp only [VT.need] at hv; omega) n (by simp only [VT.need] at hn; omega)
    have hd : ∀ x ∈ l, x.depth < 2 ^ 40 := by
      intro x hx
      have h1 := need_mem hx
      have h2 := depth_need x
      simp only [VT.need] at hv; omega
    have hdl := depth_needL l
    have hl : l.length < 2 ^ 40 := by simp only [VT.need] at hv; omega
    have hln : l.length < n := by simp only [VT.need] at hn; omega
    generalize hcall : acall E orc n = call at hc
    obtain ⟨tm, ext, hx, ht⟩ : ∃ tm ext, acode E call n (Tryz.f35.body.get!) (aframe E Tryz.f35 [.agg (VT.enc (.mk k f ng d e b t ns l))] H) = some (.ret, ⟨tm, [], H ++ ext⟩) ∧ tm.getD 2 (.v undef) = .v (.int .i64 ((VT.depthL l + 1 : Nat) : Int)) := by
      obtain ⟨tm0, htm, h0, hfr⟩ : ∃ tm0 : List AV, tm0.length = 20 ∧ tm0.getD 0 (.v undef) = .agg (VT.enc (.mk k f ng d e b t ns l)) ∧ aframe E Tryz.f35 [.agg (VT.enc (.mk k f ng d e b t ns l))] H = ⟨tm0, [], H⟩ := ⟨_, rfl, rfl, rfl⟩
      rw [hfr]
      generalize hq : acode E call n (Tryz.f35.body.get!) ⟨tm0, [], H⟩ = q
      simp [Tryz.f35] at hq
      simp only [goInt, conv, convA, conv1, List.toList_toArray, Option.get!_some, ne_eq, not_false_eq_true, decide_false, decide_true, Nat.reduceEqDiff, Nat.reduceLT, Option.map_some, List.map_cons, List.map_nil, aops_nil, aops_plain, astep_val, astep_skip, astep_pan, putA_some, putA_none, aval_tmp, aval_const, aval_func, abind_normal, abind_exit, abind_ret, abind_pan, acode_seq, acode_region, acode_skip, acode_exit, acode_ret, acode_block, ablock_normal, ablock_ret, ablock_self, aop_move, aop_assign, aop_box, obox_some, aop_fieldAddr, aop_load, oload_ep, aop_store, aop_bin, obin_lss, obin_add, aop_call, aop_len, aop_max, omax_int, List.length_set, getD_set_self, getD_set_ne, htm, h0, AV.cells?, field6, load27, olen_sl und27] at hq
      generalize hX : acode E call n (Code.loop _) _ = X at hq
      rw [acode_loop] at hX
      have hX2 : ∃ tm' ext', X = some (.exit 0, ⟨tm', [], H ++ ext'⟩) ∧ tm'.length = 20 ∧ OkH (H ++ ext') ∧ tm'.getD 3 (.v undef) = .v (.int .i64 (max ((0 : Nat) : Int) (VT.depthL (l.drop 0)))) := by
        rw [← hX]
        refine depth_loop call n l hc hd n 0 0 _ H [_] ?_ ?_ ?_ ?_ ?_ ?_ hl (by omega) (by omega) (by omega)
        · simp only [List.length_set]; exact htm
        · exact okH_box hH (enc_under _)
        · simp only [goInt, conv, convA, conv1, List.toList_toArray, Option.get!_some, ne_eq, not_false_eq_true, decide_false, decide_true, Nat.reduceEqDiff, Nat.reduceLT, Option.map_some, List.map_cons, List.map_nil, aops_nil, aops_plain, astep_val, astep_skip, astep_pan, putA_some, putA_none, aval_tmp, aval_const, aval_func, abind_normal, abind_exit, abind_ret, abind_pan, acode_seq, acode_region, acode_skip, acode_exit, acode_ret, acode_block, ablock_normal, ablock_ret, ablock_self, aop_move, aop_assign, aop_box, obox_some, aop_fieldAddr, aop_load, oload_ep, aop_store, aop_bin, obin_lss, obin_add, aop_call, aop_len, aop_max, omax_int, List.length_set, getD_set_self, getD_set_ne, htm]
        · simp only [goInt, conv, convA, conv1, List.toList_toArray, Option.get!_some, ne_eq, not_false_eq_true, decide_false, decide_true, Nat.reduceEqDiff, Nat.reduceLT, Option.map_some, List.map_cons, List.map_nil, aops_nil, aops_plain, astep_val, astep_skip, astep_pan, putA_some, putA_none, aval_tmp, aval_const, aval_func, abind_normal, abind_exit, abind_ret, abind_pan, acode_seq, acode_region, acode_skip, acode_exit, acode_ret, acode_block, ablock_normal, ablock_ret, ablock_self, aop_move, aop_assign, aop_box, obox_some, aop_fieldAddr, aop_load, oload_ep, aop_store, aop_bin, obin_lss, obin_add, aop_call, aop_len, aop_max, omax_int, List.length_set, getD_set_self, getD_set_ne, htm]
        · simp only [goInt, conv, convA, conv1, List.toList_toArray, Option.get!_some, ne_eq, not_false_eq_true, decide_false, decide_true, Nat.reduceEqDiff, Nat.reduceLT, Option.map_some, List.map_cons, List.map_nil, aops_nil, aops_plain, astep_val, astep_skip, astep_pan, putA_some, putA_none, aval_tmp, aval_const, aval_func, abind_normal, abind_exit, abind_ret, abind_pan, acode_seq, acode_region, acode_skip, acode_exit, acode_ret, acode_block, ablock_normal, ablock_ret, ablock_self, aop_move, aop_assign, aop_box, obox_some, aop_fieldAddr, aop_load, oload_ep, aop_store, aop_bin, obin_lss, obin_add, aop_call, aop_len, aop_max, omax_int, List.length_set, getD_set_self, getD_set_ne, htm]; rfl
        · simp only [goInt, conv, convA, conv1, List.toList_toArray, Option.get!_some, ne_eq, not_false_eq_true, decide_false, decide_true, Nat.reduceEqDiff, Nat.reduceLT, Option.map_some, List.map_cons, List.map_nil, aops_nil, aops_plain, astep_val, astep_skip, astep_pan, putA_some, putA_none, aval_tmp, aval_const, aval_func, abind_normal, abind_exit, abind_ret, abind_pan, acode_seq, acode_region, acode_skip, acode_exit, acode_ret, acode_block, ablock_normal, ablock_ret, ablock_self, aop_move, aop_assign, aop_box, obox_some, aop_fieldAddr, aop_load, oload_ep, aop_store, aop_bin, obin_lss, obin_add, aop_call, aop_len, aop_max, omax_int, List.length_set, getD_set_self, getD_set_ne, htm]; rfl
      obtain ⟨tm1, ext1, rfl, e1, e2, e3⟩ := hX2
      simp only [List.drop_zero] at e3
      have hm0 : max ((0 : Nat) : Int) ((VT.depthL l : Nat) : Int) = (VT.depthL l : Nat) := by omega
      rw [hm0] at e3
      have hw : IntKind.i64.wrap ((VT.depthL l : Int) + 1) = ((VT.depthL l + 1 : Nat) : Int) := by rw [i64_wrap (by omega) (by simp only [VT.need] at hv; omega)]; omega
      simp only [goInt, conv, convA, conv1, List.toList_toArray, Option.get!_some, ne_eq, not_false_eq_true, decide_false, decide_true, Nat.reduceEqDiff, Nat.reduceLT, Option.map_some, List.map_cons, List.map_nil, aops_nil, aops_plain, astep_val, astep_skip, astep_pan, putA_some, putA_none, aval_tmp, aval_const, aval_func, abind_normal, abind_exit, abind_ret, abind_pan, acode_seq, acode_region, acode_skip, acode_exit, acode_ret, acode_block, ablock_normal, ablock_ret, ablock_self, aop_move, aop_assign, aop_box, obox_some, aop_fieldAddr, aop_load, oload_ep, aop_store, aop_bin, obin_lss, obin_add, aop_call, aop_len, aop_max, omax_int, List.length_set, getD_set_self, getD_set_ne, e1, e3, hw] at hq
      subst hq
      exact ⟨_, ext1, rfl, by simp only [goInt, conv, convA, conv1, List.toList_toArray, Option.get!_some, ne_eq, not_false_eq_true, decide_false, decide_true, Nat.reduceEqDiff, Nat.reduceLT, Option.map_some, List.map_cons, List.map_nil, aops_nil, aops_plain, astep_val, astep_skip, astep_pan, putA_some, putA_none, aval_tmp, aval_const, aval_func, abind_normal, abind_exit, abind_ret, abind_pan, acode_seq, acode_region, acode_skip, acode_exit, acode_ret, acode_block, ablock_normal, ablock_ret, ablock_self, aop_move, aop_assign, aop_box, obox_some, aop_fieldAddr, aop_load, oload_ep, aop_store, aop_bin, obin_lss, obin_add, aop_call, aop_len, aop_max, omax_int, List.length_set, getD_set_self, getD_set_ne, e1]⟩
    rw [acall_ret1 ho code35 (t := 2) rfl (by rw [hcall]; exact hx), ht, gc_all hH rfl]
    rfl

end Go.AI.Jx
end
section
set_option linter.all false
namespace Go.AI.Jx
open Go Go.Proofs

mutual
def VT.size : VT → Nat
  | .mk _ _ _ _ _ _ _ _ l => VT.sizeL l + 1
def VT.sizeL : List VT → Nat
  | [] => 0
  | v :: vs => VT.size v + VT.sizeL vs
end

theorem code36 : E.code 36 = some (Tryz.f36, (Tryz.f36.body).get!) := by kernel_rfl
noncomputable def body36 : Code := sub [1, 1, 0, 1, 0, 0] ((Tryz.f36.body).get!)

theorem size_loop (call : CallFn) (n : Nat) (l : List VT) (hcall : ∀ x ∈ l, ∀ H, OkH H → call 36 [.agg x.enc] H = some (.ret (.v (goInt x.size)), H)) (hdep : ∀ x ∈ l, x.size < 2 ^ 40) : ∀ (k i m : Nat) (tm : List AV) (H ext : Heap), tm.length = 19 → OkH (H ++ ext) →
    tm.getD 7 (.v undef) = .sl l.length (VT.encL l) → tm.getD 8 (.v undef) = .v (.int .i64 l.length) → tm.getD 9 (.v undef) = .v (.int .i64 i) → tm.getD 3 (.v undef) = .v (.int .i64 m) → l.length < 2 ^ 40 → l.length - i < k → i ≤ l.length → m + VT.sizeL (l.drop i) < 2 ^ 40 →
    ∃ tm' ext', aloop (acode E call n body36) k ⟨tm, [], H ++ ext⟩ = some (.exit 0, ⟨tm', [], H ++ ext'⟩) ∧ tm'.length = 19 ∧ OkH (H ++ ext') ∧ tm'.getD 3 (.v undef) = .v (.int .i64 (m + (VT.sizeL (l.drop i)) : Int))
  | 0, i, m, tm, H, ext, _, _, _, _, _, _, _, h, _, _ => by omega
  | k + 1, i, m, tm, H, ext, htm, hok, h7, h8, h9, h3, hl, hk, hi, hm => by
    rw [aloop_succ]
    by_cases hlt : i < l.length
    · obtain ⟨x, hx⟩ : ∃ x, l[i]? = some x := ⟨l[i], List.getElem?_eq_getElem hlt⟩
      have hok' : OkH ((H ++ ext) ++ [.box 29 x.enc]) := okH_box hok (enc_under x)
      generalize hq : acode E call n body36 ⟨tm, [], H ++ ext⟩ = q
      simp [body36, sub, Tryz.f36] at hq
      simp only [goInt, conv, convA, conv1, List.toList_toArray, Option.get!_some, ne_eq, not_false_eq_true, decide_false, decide_true, Nat.reduceEqDiff, Nat.reduceLT, Option.map_some, List.map_cons, List.map_nil, aops_nil, aops_plain, astep_val, astep_skip, astep_pan, putA_some, putA_none, aval_tmp, aval_const, aval_func, abind_normal, abind_exit, abind_ret, abind_pan, acode_seq, acode_region, acode_skip, acode_exit, acode_ret, acode_block, ablock_normal, ablock_ret, ablock_self, aop_move, aop_assign, aop_box, obox_some, aop_fieldAddr, aop_load, oload_ep, aop_store, aop_bin, obin_lss, obin_add, aop_call, aop_len, aop_max, omax_int, List.length_set, getD_set_self, getD_set_ne, htm, h7, h8, h9, h3, Int.ofNat_lt, hlt, acode_true, aop_index und27, olen_sl und27, ocall_fn code36, astep_enter (hcall x (List.mem_of_getElem? hx) _ hok'), idx27 hlt, load29_ep hx, alloc29, store29_new, load29_new, VT.size] at hq
      subst hq
      rw [abind_normal, List.append_assoc]
      have hw : IntKind.i64.wrap ((i : Int) + 1) = ((i + 1 : Nat) : Int) := by rw [i64_wrap (by omega) (by omega)]; omega
      have hd : x.size < 2 ^ 40 := hdep x (List.mem_of_getElem? hx)
      obtain ⟨hi', hx'⟩ := List.getElem?_eq_some_iff.1 hx
      have hmx : VT.sizeL (l.drop i) = x.size + (VT.sizeL (l.drop (i + 1))) := by rw [List.drop_eq_getElem_cons hi', hx']; rfl
      have hmax : (m : Int) + ((VT.sizeL (l.drop i) : Nat) : Int) = ((m + x.size : Nat) : Int) + ((VT.sizeL (l.drop (i + 1)) : Nat) : Int) := by rw [hmx]; omega
      rw [hmax]
      refine size_loop call n l hcall hdep k (i + 1) (m + x.size) _ H (ext ++ [.box 29 x.enc]) ?_ ?_ ?_ ?_ ?_ ?_ hl (by omega) (by omega) (by omega)
      · simp only [List.length_set]; exact htm
      · rw [← List.append_assoc]; exact hok'
      · simp only [goInt, conv, convA, conv1, List.toList_toArray, Option.get!_some, ne_eq, not_false_eq_true, decide_false, decide_true, Nat.reduceEqDiff, Nat.reduceLT, Option.map_some, List.map_cons, List.map_nil, aops_nil, aops_plain, astep_val, astep_skip, astep_pan, putA_some, putA_none, aval_tmp, aval_const, aval_func, abind_normal, abind_exit, abind_ret, abind_pan, acode_seq, acode_region, acode_skip, acode_exit, acode_ret, acode_block, ablock_normal, ablock_ret, ablock_self, aop_move, aop_assign, aop_box, obox_some, aop_fieldAddr, aop_load, oload_ep, aop_store, aop_bin, obin_lss, obin_add, aop_call, aop_len, aop_max, omax_int, List.length_set, getD_set_self, getD_set_ne, htm, h7]
      · simp only [goInt, conv, convA, conv1, List.toList_toArray, Option.get!_some, ne_eq, not_false_eq_true, decide_false, decide_true, Nat.reduceEqDiff, Nat.reduceLT, Option.map_some, List.map_cons, List.map_nil, aops_nil, aops_plain, astep_val, astep_skip, astep_pan, putA_some, putA_none, aval_tmp, aval_const, aval_func, abind_normal, abind_exit, abind_ret, abind_pan, acode_seq, acode_region, acode_skip, acode_exit, acode_ret, acode_block, ablock_normal, ablock_ret, ablock_self, aop_move, aop_assign, aop_box, obox_some, aop_fieldAddr, aop_load, oload_ep, aop_store, aop_bin, obin_lss, obin_add, aop_call, aop_len, aop_max, omax_int, List.length_set, getD_set_self, getD_set_ne, htm, h8]
      · simp only [goInt, conv, convA, conv1, List.toList_toArray, Option.get!_some, ne_eq, not_false_eq_true, decide_false, decide_true, Nat.reduceEqDiff, Nat.reduceLT, Option.map_some, List.map_cons, List.map_nil, aops_nil, aops_plain, astep_val, astep_skip, astep_pan, putA_some, putA_none, aval_tmp, aval_const, aval_func, abind_normal, abind_exit, abind_ret, abind_pan, acode_seq, acode_region, acode_skip, acode_exit, acode_ret, acode_block, ablock_normal, ablock_ret, ablock_self, aop_move, aop_assign, aop_box, obox_some, aop_fieldAddr, aop_load, oload_ep, aop_store, aop_bin, obin_lss, obin_add, aop_call, aop_len, aop_max, omax_int, List.length_set, getD_set_self, getD_set_ne, htm, hw]
      · simp only [goInt, conv, convA, conv1, List.toList_toArray, Option.get!_some, ne_eq, not_false_eq_true, decide_false, decide_true, Nat.reduceEqDiff, Nat.reduceLT, Option.map_some, List.map_cons, List.map_nil, aops_nil, aops_plain, astep_val, astep_skip, astep_pan, putA_some, putA_none, aval_tmp, aval_const, aval_func, abind_normal, abind_exit, abind_ret, abind_pan, acode_seq, acode_region, acode_skip, acode_exit, acode_ret, acode_block, ablock_normal, ablock_ret, ablock_self, aop_move, aop_assign, aop_box, obox_some, aop_fieldAddr, aop_load, oload_ep, aop_store, aop_bin, obin_lss, obin_add, aop_call, aop_len, aop_max, omax_int, List.length_set, getD_set_self, getD_set_ne, htm]
        congr 2
        rw [i64_wrap (by omega) (by omega)]; omega
    · have : i = l.length := by omega
      subst this
      generalize hq : acode E call n body36 ⟨tm, [], H ++ ext⟩ = q
      simp [body36, sub, Tryz.f36] at hq
      simp only [goInt, conv, convA, conv1, List.toList_toArray, Option.get!_some, ne_eq, not_false_eq_true, decide_false, decide_true, Nat.reduceEqDiff, Nat.reduceLT, Option.map_some, List.map_cons, List.map_nil, aops_nil, aops_plain, astep_val, astep_skip, astep_pan, putA_some, putA_none, aval_tmp, aval_const, aval_func, abind_normal, abind_exit, abind_ret, abind_pan, acode_seq, acode_region, acode_skip, acode_exit, acode_ret, acode_block, ablock_normal, ablock_ret, ablock_self, aop_move, aop_assign, aop_box, obox_some, aop_fieldAddr, aop_load, oload_ep, aop_store, aop_bin, obin_lss, obin_add, aop_call, aop_len, aop_max, omax_int, List.length_set, getD_set_self, getD_set_ne, htm, h8, h9, Int.lt_irrefl, acode_false] at hq
      subst hq
      exact ⟨_, ext, rfl, by simp [htm], hok, by rw [getD_set_ne (by decide), h3]; simp [VT.sizeL]⟩

mutual
theorem size_need : ∀ v : VT, v.size ≤ v.need
  | .mk _ _ _ _ _ _ _ _ l => by have := size_needL l; simp [VT.size, VT.need]; omega
theorem size_needL : ∀ l : List VT, VT.sizeL l ≤ VT.needL l
  | [] => by simp [VT.sizeL]
  | v :: vs => by have h1 := size_need v; have h2 := size_needL vs; simp [VT.sizeL, VT.needL]; omega
end

theorem size_ok (orc : Orc) (ho : orc 36 = none) : ∀ (v : VT), v.need < 2 ^ 40 → ∀ n, v.need ≤ n → ∀ H, OkH H → acall E orc n 36 [.agg v.enc] H = some (.ret (.v (goInt v.size)), H)
  | .mk k f ng d e b t ns l, hv, n, hn, H, hH => by
    obtain ⟨n, rfl⟩ : ∃ m, n = m + 1 := ⟨n - 1, by simp only [VT.need] at hn; omega⟩
    have hc : ∀ x ∈ l, ∀ H, OkH H → acall E orc n 36 [.agg x.enc] H = some (.ret (.v (goInt x.size)), H) := by
      intro x hx
      have := need_mem hx
      exact size_ok orc ho x (by simp only [VT.need] at hv; omega) n (by simp only [VT.need] at hn; omega)
    have hd : ∀ x ∈ l, x.size < 2 ^ 40 := by
      intro x hx
      have h1 := need_mem hx
      have h2 := size_need x
      simp only [VT.need] at hv; omega
    have hdl := size_needL l
    have hl : l.length < 2 ^ 40 := by simp only [VT.need] at hv; omega
    have hln : l.length < n := by simp only [VT.need] at hn; omega
    generalize hcall : acall E orc n = call at hc
    obtain ⟨tm, ext, hx, ht⟩ : ∃ tm ext, acode E call n (Tryz.f36.body.get!) (aframe E Tryz.f36 [.agg (VT.enc (.mk k f ng d e b t ns l))] H) = some (.ret, ⟨tm, [], H ++ ext⟩) ∧ tm.getD 2 (.v undef) = .v (.int .i64 ((VT.sizeL l + 1 : Nat) : Int)) := by
      obtain ⟨tm0, htm, h0, hfr⟩ : ∃ tm0 : List AV, tm0.length = 19 ∧ tm0.getD 0 (.v undef) = .agg (VT.enc (.mk k f ng d e b t ns l)) ∧ aframe E Tryz.f36 [.agg (VT.enc (.mk k f ng d e b t ns l))] H = ⟨tm0, [], H⟩ := ⟨_, rfl, rfl, rfl⟩
      rw [hfr]
      generalize hq : acode E call n (Tryz.f36.body.get!) ⟨tm0, [], H⟩ = q
      simp [Tryz.f36] at hq
      simp only [goInt, conv, convA, conv1, List.toList_toArray, Option.get!_some, ne_eq, not_false_eq_true, decide_false, decide_true, Nat.reduceEqDiff, Nat.reduceLT, Option.map_some, List.map_cons, List.map_nil, aops_nil, aops_plain, astep_val, astep_skip, astep_pan, putA_some, putA_none, aval_tmp, aval_const, aval_func, abind_normal, abind_exit, abind_ret, abind_pan, acode_seq, acode_region, acode_skip, acode_exit, acode_ret, acode_block, ablock_normal, ablock_ret, ablock_self, aop_move, aop_assign, aop_box, obox_some, aop_fieldAddr, aop_load, oload_ep, aop_store, aop_bin, obin_lss, obin_add, aop_call, aop_len, aop_max, omax_int, List.length_set, getD_set_self, getD_set_ne, htm, h0, AV.cells?, field6, load27, olen_sl und27] at hq
      generalize hX : acode E call n (Code.loop _) _ = X at hq
      rw [acode_loop] at hX
      have hX2 : ∃ tm' ext', X = some (.exit 0, ⟨tm', [], H ++ ext'⟩) ∧ tm'.length = 19 ∧ OkH (H ++ ext') ∧ tm'.getD 3 (.v undef) = .v (.int .i64 (((1 : Nat) : Int) + (VT.sizeL (l.drop 0)))) := by
        rw [← hX]
        refine size_loop call n l hc hd n 0 1 _ H [_] ?_ ?_ ?_ ?_ ?_ ?_ hl (by omega) (by omega) (by simp only [List.drop_zero]; simp only [VT.need] at hv; omega)
        · simp only [List.length_set]; exact htm
        · exact okH_box hH (enc_under _)
        · simp only [goInt, conv, convA, conv1, List.toList_toArray, Option.get!_some, ne_eq, not_false_eq_true, decide_false, decide_true, Nat.reduceEqDiff, Nat.reduceLT, Option.map_some, List.map_cons, List.map_nil, aops_nil, aops_plain, astep_val, astep_skip, astep_pan, putA_some, putA_none, aval_tmp, aval_const, aval_func, abind_normal, abind_exit, abind_ret, abind_pan, acode_seq, acode_region, acode_skip, acode_exit, acode_ret, acode_block, ablock_normal, ablock_ret, ablock_self, aop_move, aop_assign, aop_box, obox_some, aop_fieldAddr, aop_load, oload_ep, aop_store, aop_bin, obin_lss, obin_add, aop_call, aop_len, aop_max, omax_int, List.length_set, getD_set_self, getD_set_ne, htm]
        · simp only [goInt, conv, convA, conv1, List.toList_toArray, Option.get!_some, ne_eq, not_false_eq_true, decide_false, decide_true, Nat.reduceEqDiff, Nat.reduceLT, Option.map_some, List.map_cons, List.map_nil, aops_nil, aops_plain, astep_val, astep_skip, astep_pan, putA_some, putA_none, aval_tmp, aval_const, aval_func, abind_normal, abind_exit, abind_ret, abind_pan, acode_seq, acode_region, acode_skip, acode_exit, acode_ret, acode_block, ablock_normal, ablock_ret, ablock_self, aop_move, aop_assign, aop_box, obox_some, aop_fieldAddr, aop_load, oload_ep, aop_store, aop_bin, obin_lss, obin_add, aop_call, aop_len, aop_max, omax_int, List.length_set, getD_set_self, getD_set_ne, htm]
        · simp only [goInt, conv, convA, conv1, List.toList_toArray, Option.get!_some, ne_eq, not_false_eq_true, decide_false, decide_true, Nat.reduceEqDiff, Nat.reduceLT, Option.map_some, List.map_cons, List.map_nil, aops_nil, aops_plain, astep_val, astep_skip, astep_pan, putA_some, putA_none, aval_tmp, aval_const, aval_func, abind_normal, abind_exit, abind_ret, abind_pan, acode_seq, acode_region, acode_skip, acode_exit, acode_ret, acode_block, ablock_normal, ablock_ret, ablock_self, aop_move, aop_assign, aop_box, obox_some, aop_fieldAddr, aop_load, oload_ep, aop_store, aop_bin, obin_lss, obin_add, aop_call, aop_len, aop_max, omax_int, List.length_set, getD_set_self, getD_set_ne, htm]; rfl
        · simp only [goInt, conv, convA, conv1, List.toList_toArray, Option.get!_some, ne_eq, not_false_eq_true, decide_false, decide_true, Nat.reduceEqDiff, Nat.reduceLT, Option.map_some, List.map_cons, List.map_nil, aops_nil, aops_plain, astep_val, astep_skip, astep_pan, putA_some, putA_none, aval_tmp, aval_const, aval_func, abind_normal, abind_exit, abind_ret, abind_pan, acode_seq, acode_region, acode_skip, acode_exit, acode_ret, acode_block, ablock_normal, ablock_ret, ablock_self, aop_move, aop_assign, aop_box, obox_some, aop_fieldAddr, aop_load, oload_ep, aop_store, aop_bin, obin_lss, obin_add, aop_call, aop_len, aop_max, omax_int, List.length_set, getD_set_self, getD_set_ne, htm]; rfl
      obtain ⟨tm1, ext1, rfl, e1, e2, e3⟩ := hX2
      simp only [List.drop_zero] at e3
      have hm0 : ((1 : Nat) : Int) + ((VT.sizeL l : Nat) : Int) = ((VT.sizeL l + 1 : Nat) : Int) := by omega
      rw [hm0] at e3
      have hw : IntKind.i64.wrap ((VT.sizeL l : Int) + 1) = ((VT.sizeL l + 1 : Nat) : Int) := by rw [i64_wrap (by omega) (by simp only [VT.need] at hv; omega)]; omega
      simp only [goInt, conv, convA, conv1, List.toList_toArray, Option.get!_some, ne_eq, not_false_eq_true, decide_false, decide_true, Nat.reduceEqDiff, Nat.reduceLT, Option.map_some, List.map_cons, List.map_nil, aops_nil, aops_plain, astep_val, astep_skip, astep_pan, putA_some, putA_none, aval_tmp, aval_const, aval_func, abind_normal, abind_exit, abind_ret, abind_pan, acode_seq, acode_region, acode_skip, acode_exit, acode_ret, acode_block, ablock_normal, ablock_ret, ablock_self, aop_move, aop_assign, aop_box, obox_some, aop_fieldAddr, aop_load, oload_ep, aop_store, aop_bin, obin_lss, obin_add, aop_call, aop_len, aop_max, omax_int, List.length_set, getD_set_self, getD_set_ne, e1, e3, hw] at hq
      subst hq
      exact ⟨_, ext1, rfl, by simp only [goInt, conv, convA, conv1, List.toList_toArray, Option.get!_some, ne_eq, not_false_eq_true, decide_false, decide_true, Nat.reduceEqDiff, Nat.reduceLT, Option.map_some, List.map_cons, List.map_nil, aops_nil, aops_plain, astep_val, astep_skip, astep_pan, putA_some, putA_none, aval_tmp, aval_const, aval_func, abind_normal, abind_exit, abind_ret, abind_pan, acode_seq, acode_region, acode_skip, acode_exit, acode_ret, acode_block, ablock_normal, ablock_ret, ablock_self, aop_move, aop_assign, aop_box, obox_some, aop_fieldAddr, aop_load, oload_ep, aop_store, aop_bin, obin_lss, obin_add, aop_call, aop_len, aop_max, omax_int, List.length_set, getD_set_self, getD_set_ne, e1]⟩
    rw [acall_ret1 ho code36 (t := 2) rfl (by rw [hcall]; exact hx), ht, gc_all hH rfl]
    rfl

end Go.AI.Jx
end
section
set_option linter.all false
namespace Go.AI.Jx
open Go Go.Proofs

theorem und26 : E.P.underlying 26 = some (.slice 9) := by kernel_rfl
theorem size26 : sizeT E.P 26 = some 1 := by kernel_rfl
theorem agg26 : isAggT E.P 26 = some false := by kernel_rfl
theorem field5 {H : Heap} {id off : Nat} : ofield E.P 29 5 H (.ptr id off) = some (.val (.ptr id (off + 7)), H) := by kernel_rfl
def namesA (ns : List ByteArray) : List AV := ns.map fun s => .v (.string s)
theorem load26 {k f n d e b t ns} {l : List VT} {H : Heap} : oload E.P 26 (H ++ [.box 29 (VT.enc (.mk k f n d e b t ns l))]) (.ptr H.length (0 + 7)) = some (.val (.sl ns.length (namesA ns)), H ++ [.box 29 (VT.enc (.mk k f n d e b t ns l))]) := by
  have hH : (H ++ [AObj.box 29 (VT.enc (.mk k f n d e b t ns l))])[H.length]? = some (.box 29 (VT.enc (.mk k f n d e b t ns l))) := by simp
  rw [oload_ptr hH]
  simp [aload, agg26, size26, VT.enc, namesA]
theorem code20 : E.code 20 = some (Tryz.f20, (Tryz.f20.body).get!) := by kernel_rfl

mutual
def VT.many : VT → Bool
  | .mk _ _ _ _ _ _ _ ns l => decide (ns.length > 2000) || VT.manyL l
def VT.manyL : List VT → Bool
  | [] => false
  | v :: vs => VT.many v || VT.manyL vs
end

noncomputable def body20 : Code := sub [1, 1, 0, 1, 0, 0] ((Tryz.f20.body).get!)

theorem many_loop (call : CallFn) (n : Nat) (k f ng d e b t ns) (l : List VT) (hcall : ∀ x ∈ l, ∀ H, OkH H → call 20 [.agg x.enc] H = some (.ret (.v (.bool x.many)), H)) (H : Heap) (hok : OkH (H ++ [.box 29 (VT.enc (.mk k f ng d e b t ns l))])) (hl : l.length < 2 ^ 40) : ∀ (q i : Nat) (tm : List AV), tm.length = 21 →
    tm.getD 1 (.v undef) = .ptr H.length 0 → tm.getD 3 (.v undef) = .v (.int .i64 i) → l.length - i < q → i ≤ l.length →
    ∃ tm', aloop (acode E call n body20) q ⟨tm, [], H ++ [.box 29 (VT.enc (.mk k f ng d e b t ns l))]⟩ = some (if VT.manyL (l.drop i) = true then .ret else .exit 0, ⟨tm', [], H ++ [.box 29 (VT.enc (.mk k f ng d e b t ns l))]⟩) ∧ tm'.length = 21 ∧ (VT.manyL (l.drop i) = true → tm'.getD 2 (.v undef) = .v (.bool true))
  | 0, i, tm, _, _, _, h, _ => by omega
  | q + 1, i, tm, htm, h1, h3, hk, hi => by
    rw [aloop_succ]
    by_cases hlt : i < l.length
    · obtain ⟨x, hx⟩ : ∃ x, l[i]? = some x := ⟨l[i], List.getElem?_eq_getElem hlt⟩
      have hx' := hx
      obtain ⟨hi', hxe⟩ := List.getElem?_eq_some_iff.1 hx
      have hmx : VT.manyL (l.drop i) = (x.many || VT.manyL (l.drop (i + 1))) := by rw [List.drop_eq_getElem_cons hi', hxe]; rfl
      have hw : IntKind.i64.wrap ((i : Int) + 1) = ((i + 1 : Nat) : Int) := by rw [i64_wrap (by omega) (by omega)]; omega
      generalize hq : acode E call n body20 ⟨tm, [], H ++ [.box 29 (VT.enc (.mk k f ng d e b t ns l))]⟩ = r
      simp [body20, sub, Tryz.f20] at hq
      cases hm : x.many with
      | true =>
        simp only [goInt, conv, convA, conv1, List.toList_toArray, Option.get!_some, ne_eq, not_false_eq_true, decide_false, decide_true, Nat.reduceEqDiff, Nat.reduceLT, Option.map_some, List.map_cons, List.map_nil, aops_nil, aops_plain, astep_val, astep_skip, astep_pan, putA_some, putA_none, aval_tmp, aval_const, aval_func, abind_normal, abind_exit, abind_ret, abind_pan, acode_seq, acode_region, acode_skip, acode_exit, acode_ret, acode_block, ablock_normal, ablock_ret, ablock_self, aop_move, aop_assign, aop_box, obox_some, aop_fieldAddr, aop_load, oload_ep, aop_store, aop_bin, obin_lss, obin_add, aop_call, aop_len, aop_max, omax_int, List.length_set, getD_set_self, getD_set_ne, htm, h1, h3, field6, load27, olen_sl und27, aop_index und27, idx27 hlt, load29_ep hx, Int.ofNat_lt, hlt, acode_true, acode_false, ocall_fn code20, astep_enter (hcall x (List.mem_of_getElem? hx) _ hok), hm] at hq
        subst hq
        rw [hmx, hm]
        exact ⟨_, rfl, by simp only [goInt, conv, convA, conv1, List.toList_toArray, Option.get!_some, ne_eq, not_false_eq_true, decide_false, decide_true, Nat.reduceEqDiff, Nat.reduceLT, Option.map_some, List.map_cons, List.map_nil, aops_nil, aops_plain, astep_val, astep_skip, astep_pan, putA_some, putA_none, aval_tmp, aval_const, aval_func, abind_normal, abind_exit, abind_ret, abind_pan, acode_seq, acode_region, acode_skip, acode_exit, acode_ret, acode_block, ablock_normal, ablock_ret, ablock_self, aop_move, aop_assign, aop_box, obox_some, aop_fieldAddr, aop_load, oload_ep, aop_store, aop_bin, obin_lss, obin_add, aop_call, aop_len, aop_max, omax_int, List.length_set, getD_set_self, getD_set_ne, htm], fun _ => by simp only [goInt, conv, convA, conv1, List.toList_toArray, Option.get!_some, ne_eq, not_false_eq_true, decide_false, decide_true, Nat.reduceEqDiff, Nat.reduceLT, Option.map_some, List.map_cons, List.map_nil, aops_nil, aops_plain, astep_val, astep_skip, astep_pan, putA_some, putA_none, aval_tmp, aval_const, aval_func, abind_normal, abind_exit, abind_ret, abind_pan, acode_seq, acode_region, acode_skip, acode_exit, acode_ret, acode_block, ablock_normal, ablock_ret, ablock_self, aop_move, aop_assign, aop_box, obox_some, aop_fieldAddr, aop_load, oload_ep, aop_store, aop_bin, obin_lss, obin_add, aop_call, aop_len, aop_max, omax_int, List.length_set, getD_set_self, getD_set_ne, htm]⟩
      | false =>
        simp only [goInt, conv, convA, conv1, List.toList_toArray, Option.get!_some, ne_eq, not_false_eq_true, decide_false, decide_true, Nat.reduceEqDiff, Nat.reduceLT, Option.map_some, List.map_cons, List.map_nil, aops_nil, aops_plain, astep_val, astep_skip, astep_pan, putA_some, putA_none, aval_tmp, aval_const, aval_func, abind_normal, abind_exit, abind_ret, abind_pan, acode_seq, acode_region, acode_skip, acode_exit, acode_ret, acode_block, ablock_normal, ablock_ret, ablock_self, aop_move, aop_assign, aop_box, obox_some, aop_fieldAddr, aop_load, oload_ep, aop_store, aop_bin, obin_lss, obin_add, aop_call, aop_len, aop_max, omax_int, List.length_set, getD_set_self, getD_set_ne, htm, h1, h3, field6, load27, olen_sl und27, aop_index und27, idx27 hlt, load29_ep hx, Int.ofNat_lt, hlt, acode_true, acode_false, ocall_fn code20, astep_enter (hcall x (List.mem_of_getElem? hx) _ hok), hm, hw] at hq
        subst hq
        rw [abind_normal, hmx, hm, Bool.false_or]
        refine many_loop call n k f ng d e b t ns l hcall H hok hl q (i + 1) _ ?_ ?_ ?_ (by omega) (by omega)
        · simp only [goInt, conv, convA, conv1, List.toList_toArray, Option.get!_some, ne_eq, not_false_eq_true, decide_false, decide_true, Nat.reduceEqDiff, Nat.reduceLT, Option.map_some, List.map_cons, List.map_nil, aops_nil, aops_plain, astep_val, astep_skip, astep_pan, putA_some, putA_none, aval_tmp, aval_const, aval_func, abind_normal, abind_exit, abind_ret, abind_pan, acode_seq, acode_region, acode_skip, acode_exit, acode_ret, acode_block, ablock_normal, ablock_ret, ablock_self, aop_move, aop_assign, aop_box, obox_some, aop_fieldAddr, aop_load, oload_ep, aop_store, aop_bin, obin_lss, obin_add, aop_call, aop_len, aop_max, omax_int, List.length_set, getD_set_self, getD_set_ne, htm]
        · simp only [goInt, conv, convA, conv1, List.toList_toArray, Option.get!_some, ne_eq, not_false_eq_true, decide_false, decide_true, Nat.reduceEqDiff, Nat.reduceLT, Option.map_some, List.map_cons, List.map_nil, aops_nil, aops_plain, astep_val, astep_skip, astep_pan, putA_some, putA_none, aval_tmp, aval_const, aval_func, abind_normal, abind_exit, abind_ret, abind_pan, acode_seq, acode_region, acode_skip, acode_exit, acode_ret, acode_block, ablock_normal, ablock_ret, ablock_self, aop_move, aop_assign, aop_box, obox_some, aop_fieldAddr, aop_load, oload_ep, aop_store, aop_bin, obin_lss, obin_add, aop_call, aop_len, aop_max, omax_int, List.length_set, getD_set_self, getD_set_ne, htm, h1]
        · simp only [goInt, conv, convA, conv1, List.toList_toArray, Option.get!_some, ne_eq, not_false_eq_true, decide_false, decide_true, Nat.reduceEqDiff, Nat.reduceLT, Option.map_some, List.map_cons, List.map_nil, aops_nil, aops_plain, astep_val, astep_skip, astep_pan, putA_some, putA_none, aval_tmp, aval_const, aval_func, abind_normal, abind_exit, abind_ret, abind_pan, acode_seq, acode_region, acode_skip, acode_exit, acode_ret, acode_block, ablock_normal, ablock_ret, ablock_self, aop_move, aop_assign, aop_box, obox_some, aop_fieldAddr, aop_load, oload_ep, aop_store, aop_bin, obin_lss, obin_add, aop_call, aop_len, aop_max, omax_int, List.length_set, getD_set_self, getD_set_ne, htm]
    · have : i = l.length := by omega
      subst this
      generalize hq : acode E call n body20 ⟨tm, [], H ++ [.box 29 (VT.enc (.mk k f ng d e b t ns l))]⟩ = r
      simp [body20, sub, Tryz.f20] at hq
      simp only [goInt, conv, convA, conv1, List.toList_toArray, Option.get!_some, ne_eq, not_false_eq_true, decide_false, decide_true, Nat.reduceEqDiff, Nat.reduceLT, Option.map_some, List.map_cons, List.map_nil, aops_nil, aops_plain, astep_val, astep_skip, astep_pan, putA_some, putA_none, aval_tmp, aval_const, aval_func, abind_normal, abind_exit, abind_ret, abind_pan, acode_seq, acode_region, acode_skip, acode_exit, acode_ret, acode_block, ablock_normal, ablock_ret, ablock_self, aop_move, aop_assign, aop_box, obox_some, aop_fieldAddr, aop_load, oload_ep, aop_store, aop_bin, obin_lss, obin_add, aop_call, aop_len, aop_max, omax_int, List.length_set, getD_set_self, getD_set_ne, htm, h1, h3, field6, load27, olen_sl und27, Int.lt_irrefl, acode_false] at hq
      subst hq
      rw [List.drop_length]
      exact ⟨_, rfl, by simp only [goInt, conv, convA, conv1, List.toList_toArray, Option.get!_some, ne_eq, not_false_eq_true, decide_false, decide_true, Nat.reduceEqDiff, Nat.reduceLT, Option.map_some, List.map_cons, List.map_nil, aops_nil, aops_plain, astep_val, astep_skip, astep_pan, putA_some, putA_none, aval_tmp, aval_const, aval_func, abind_normal, abind_exit, abind_ret, abind_pan, acode_seq, acode_region, acode_skip, acode_exit, acode_ret, acode_block, ablock_normal, ablock_ret, ablock_self, aop_move, aop_assign, aop_box, obox_some, aop_fieldAddr, aop_load, oload_ep, aop_store, aop_bin, obin_lss, obin_add, aop_call, aop_len, aop_max, omax_int, List.length_set, getD_set_self, getD_set_ne, htm], fun h => by simp [VT.manyL] at h⟩

theorem many_ok (orc : Orc) (ho : orc 20 = none) : ∀ (v : VT), v.need < 2 ^ 40 → ∀ n, v.need ≤ n → ∀ H, OkH H → acall E orc n 20 [.agg v.enc] H = some (.ret (.v (.bool v.many)), H)
  | .mk k f ng d e b t ns l, hv, n, hn, H, hH => by
    obtain ⟨n, rfl⟩ : ∃ m, n = m + 1 := ⟨n - 1, by simp only [VT.need] at hn; omega⟩
    have hc : ∀ x ∈ l, ∀ H, OkH H → acall E orc n 20 [.agg x.enc] H = some (.ret (.v (.bool x.many)), H) := by
      intro x hx
      have := need_mem hx
      exact many_ok orc ho x (by simp only [VT.need] at hv; omega) n (by simp only [VT.need] at hn; omega)
    have hl : l.length < 2 ^ 40 := by simp only [VT.need] at hv; omega
    have hln : l.length < n := by simp only [VT.need] at hn; omega
    have hok := okH_box (t := 29) hH (enc_under (.mk k f ng d e b t ns l))
    generalize hcall : acall E orc n = call at hc
    obtain ⟨tm, ext, hx, ht⟩ : ∃ tm ext, acode E call n (Tryz.f20.body.get!) (aframe E Tryz.f20 [.agg (VT.enc (.mk k f ng d e b t ns l))] H) = some (.ret, ⟨tm, [], H ++ ext⟩) ∧ tm.getD 2 (.v undef) = .v (.bool (VT.many (.mk k f ng d e b t ns l))) := by
      obtain ⟨tm0, htm, h0, hfr⟩ : ∃ tm0 : List AV, tm0.length = 21 ∧ tm0.getD 0 (.v undef) = .agg (VT.enc (.mk k f ng d e b t ns l)) ∧ aframe E Tryz.f20 [.agg (VT.enc (.mk k f ng d e b t ns l))] H = ⟨tm0, [], H⟩ := ⟨_, rfl, rfl, rfl⟩
      rw [hfr]
      generalize hq : acode E call n (Tryz.f20.body.get!) ⟨tm0, [], H⟩ = q
      simp [Tryz.f20] at hq
      by_cases hns : ns.length > 2000
      · have hns' : decide ((ns.length : Int) > 2000) = true := by simp; omega
        simp only [goInt, conv, convA, conv1, List.toList_toArray, Option.get!_some, ne_eq, not_false_eq_true, decide_false, decide_true, Nat.reduceEqDiff, Nat.reduceLT, Option.map_some, List.map_cons, List.map_nil, aops_nil, aops_plain, astep_val, astep_skip, astep_pan, putA_some, putA_none, aval_tmp, aval_const, aval_func, abind_normal, abind_exit, abind_ret, abind_pan, acode_seq, acode_region, acode_skip, acode_exit, acode_ret, acode_block, ablock_normal, ablock_ret, ablock_self, aop_move, aop_assign, aop_box, obox_some, aop_fieldAddr, aop_load, oload_ep, aop_store, aop_bin, obin_lss, obin_add, aop_call, aop_len, aop_max, omax_int, List.length_set, getD_set_self, getD_set_ne, htm, h0, AV.cells?, field5, load26, olen_sl und26, obin_gtr, hns', acode_true] at hq
        subst hq
        exact ⟨_, _, rfl, by simp only [goInt, conv, convA, conv1, List.toList_toArray, Option.get!_some, ne_eq, not_false_eq_true, decide_false, decide_true, Nat.reduceEqDiff, Nat.reduceLT, Option.map_some, List.map_cons, List.map_nil, aops_nil, aops_plain, astep_val, astep_skip, astep_pan, putA_some, putA_none, aval_tmp, aval_const, aval_func, abind_normal, abind_exit, abind_ret, abind_pan, acode_seq, acode_region, acode_skip, acode_exit, acode_ret, acode_block, ablock_normal, ablock_ret, ablock_self, aop_move, aop_assign, aop_box, obox_some, aop_fieldAddr, aop_load, oload_ep, aop_store, aop_bin, obin_lss, obin_add, aop_call, aop_len, aop_max, omax_int, List.length_set, getD_set_self, getD_set_ne, htm, VT.many]; simp [hns]⟩
      · have hns' : decide ((ns.length : Int) > 2000) = false := by simp; omega
        simp only [goInt, conv, convA, conv1, List.toList_toArray, Option.get!_some, ne_eq, not_false_eq_true, decide_false, decide_true, Nat.reduceEqDiff, Nat.reduceLT, Option.map_some, List.map_cons, List.map_nil, aops_nil, aops_plain, astep_val, astep_skip, astep_pan, putA_some, putA_none, aval_tmp, aval_const, aval_func, abind_normal, abind_exit, abind_ret, abind_pan, acode_seq, acode_region, acode_skip, acode_exit, acode_ret, acode_block, ablock_normal, ablock_ret, ablock_self, aop_move, aop_assign, aop_box, obox_some, aop_fieldAddr, aop_load, oload_ep, aop_store, aop_bin, obin_lss, obin_add, aop_call, aop_len, aop_max, omax_int, List.length_set, getD_set_self, getD_set_ne, htm, h0, AV.cells?, field5, load26, olen_sl und26, obin_gtr, hns', acode_false] at hq
        generalize hX : acode E call n (Code.loop _) _ = X at hq
        rw [acode_loop] at hX
        have hX2 : ∃ tm', X = some (if VT.manyL (l.drop 0) = true then .ret else .exit 0, ⟨tm', [], H ++ [.box 29 (VT.enc (.mk k f ng d e b t ns l))]⟩) ∧ tm'.length = 21 ∧ (VT.manyL (l.drop 0) = true → tm'.getD 2 (.v undef) = .v (.bool true)) := by
          rw [← hX]
          refine many_loop call n k f ng d e b t ns l hc H hok hl n 0 _ ?_ ?_ ?_ (by omega) (by omega)
          · simp only [goInt, conv, convA, conv1, List.toList_toArray, Option.get!_some, ne_eq, not_false_eq_true, decide_false, decide_true, Nat.reduceEqDiff, Nat.reduceLT, Option.map_some, List.map_cons, List.map_nil, aops_nil, aops_plain, astep_val, astep_skip, astep_pan, putA_some, putA_none, aval_tmp, aval_const, aval_func, abind_normal, abind_exit, abind_ret, abind_pan, acode_seq, acode_region, acode_skip, acode_exit, acode_ret, acode_block, ablock_normal, ablock_ret, ablock_self, aop_move, aop_assign, aop_box, obox_some, aop_fieldAddr, aop_load, oload_ep, aop_store, aop_bin, obin_lss, obin_add, aop_call, aop_len, aop_max, omax_int, List.length_set, getD_set_self, getD_set_ne, htm]
          · simp only [goInt, conv, convA, conv1, List.toList_toArray, Option.get!_some, ne_eq, not_false_eq_true, decide_false, decide_true, Nat.reduceEqDiff, Nat.reduceLT, Option.map_some, List.map_cons, List.map_nil, aops_nil, aops_plain, astep_val, astep_skip, astep_pan, putA_some, putA_none, aval_tmp, aval_const, aval_func, abind_normal, abind_exit, abind_ret, abind_pan, acode_seq, acode_region, acode_skip, acode_exit, acode_ret, acode_block, ablock_normal, ablock_ret, ablock_self, aop_move, aop_assign, aop_box, obox_some, aop_fieldAddr, aop_load, oload_ep, aop_store, aop_bin, obin_lss, obin_add, aop_call, aop_len, aop_max, omax_int, List.length_set, getD_set_self, getD_set_ne, htm]
          · simp only [goInt, conv, convA, conv1, List.toList_toArray, Option.get!_some, ne_eq, not_false_eq_true, decide_false, decide_true, Nat.reduceEqDiff, Nat.reduceLT, Option.map_some, List.map_cons, List.map_nil, aops_nil, aops_plain, astep_val, astep_skip, astep_pan, putA_some, putA_none, aval_tmp, aval_const, aval_func, abind_normal, abind_exit, abind_ret, abind_pan, acode_seq, acode_region, acode_skip, acode_exit, acode_ret, acode_block, ablock_normal, ablock_ret, ablock_self, aop_move, aop_assign, aop_box, obox_some, aop_fieldAddr, aop_load, oload_ep, aop_store, aop_bin, obin_lss, obin_add, aop_call, aop_len, aop_max, omax_int, List.length_set, getD_set_self, getD_set_ne, htm]; rfl
        obtain ⟨tm1, rfl, e1, e2⟩ := hX2
        rw [List.drop_zero] at hq e2
        cases hm : VT.manyL l with
        | true =>
          rw [hm] at hq
          simp only [goInt, conv, convA, conv1, List.toList_toArray, Option.get!_some, ne_eq, not_false_eq_true, decide_false, decide_true, Nat.reduceEqDiff, Nat.reduceLT, Option.map_some, List.map_cons, List.map_nil, aops_nil, aops_plain, astep_val, astep_skip, astep_pan, putA_some, putA_none, aval_tmp, aval_const, aval_func, abind_normal, abind_exit, abind_ret, abind_pan, acode_seq, acode_region, acode_skip, acode_exit, acode_ret, acode_block, ablock_normal, ablock_ret, ablock_self, aop_move, aop_assign, aop_box, obox_some, aop_fieldAddr, aop_load, oload_ep, aop_store, aop_bin, obin_lss, obin_add, aop_call, aop_len, aop_max, omax_int, List.length_set, getD_set_self, getD_set_ne, if_true] at hq
          subst hq
          exact ⟨_, _, rfl, by rw [e2 hm]; simp [VT.many, hm]⟩
        | false =>
          rw [hm] at hq
          simp only [goInt, conv, convA, conv1, List.toList_toArray, Option.get!_some, ne_eq, not_false_eq_true, decide_false, decide_true, Nat.reduceEqDiff, Nat.reduceLT, Option.map_some, List.map_cons, List.map_nil, aops_nil, aops_plain, astep_val, astep_skip, astep_pan, putA_some, putA_none, aval_tmp, aval_const, aval_func, abind_normal, abind_exit, abind_ret, abind_pan, acode_seq, acode_region, acode_skip, acode_exit, acode_ret, acode_block, ablock_normal, ablock_ret, ablock_self, aop_move, aop_assign, aop_box, obox_some, aop_fieldAddr, aop_load, oload_ep, aop_store, aop_bin, obin_lss, obin_add, aop_call, aop_len, aop_max, omax_int, List.length_set, getD_set_self, getD_set_ne, e1, Bool.false_eq_true, if_false] at hq
          subst hq
          exact ⟨_, _, rfl, by simp only [goInt, conv, convA, conv1, List.toList_toArray, Option.get!_some, ne_eq, not_false_eq_true, decide_false, decide_true, Nat.reduceEqDiff, Nat.reduceLT, Option.map_some, List.map_cons, List.map_nil, aops_nil, aops_plain, astep_val, astep_skip, astep_pan, putA_some, putA_none, aval_tmp, aval_const, aval_func, abind_normal, abind_exit, abind_ret, abind_pan, acode_seq, acode_region, acode_skip, acode_exit, acode_ret, acode_block, ablock_normal, ablock_ret, ablock_self, aop_move, aop_assign, aop_box, obox_some, aop_fieldAddr, aop_load, oload_ep, aop_store, aop_bin, obin_lss, obin_add, aop_call, aop_len, aop_max, omax_int, List.length_set, getD_set_self, getD_set_ne, e1, VT.many, hm]; simp; omega⟩
    rw [acall_ret1 ho code20 (t := 2) rfl (by rw [hcall]; exact hx), ht, gc_all hH rfl]

end Go.AI.Jx
end
section
set_option linter.all false
namespace Go.AI.Jx
open Go Go.Proofs

theorem size9 : sizeT E.P 9 = some 1 := by kernel_rfl
theorem agg9 : isAggT E.P 9 = some false := by kernel_rfl
theorem len9 {H : Heap} {ty : TypeId} {s : ByteArray} : olen E.P 9 H #[9] ty (.v (.string s)) = some (.val (.v (goInt s.size)), H) := by kernel_rfl
theorem field4 {H : Heap} {id off : Nat} : ofield E.P 29 4 H (.ptr id off) = some (.val (.ptr id (off + 6)), H) := by kernel_rfl
theorem field2 {H : Heap} {id off : Nat} : ofield E.P 29 2 H (.ptr id off) = some (.val (.ptr id (off + 2)), H) := by kernel_rfl
theorem fieldN1 {H : Heap} {id off : Nat} : ofield E.P 24 1 H (.ptr id off) = some (.val (.ptr id (off + 1)), H) := by kernel_rfl
theorem loadText {k f n d e b t ns} {l : List VT} {H : Heap} : oload E.P 9 (H ++ [.box 29 (VT.enc (.mk k f n d e b t ns l))]) (.ptr H.length (0 + 6)) = some (.val (.v (.string t)), H ++ [.box 29 (VT.enc (.mk k f n d e b t ns l))]) := by
  have hH : (H ++ [AObj.box 29 (VT.enc (.mk k f n d e b t ns l))])[H.length]? = some (.box 29 (VT.enc (.mk k f n d e b t ns l))) := by simp
  rw [oload_ptr hH]
  simp [aload, agg9, size9, VT.enc]
theorem loadDigits {k f n d e b t ns} {l : List VT} {H : Heap} : oload E.P 9 (H ++ [.box 29 (VT.enc (.mk k f n d e b t ns l))]) (.ptr H.length (0 + 2 + 1)) = some (.val (.v (.string d)), H ++ [.box 29 (VT.enc (.mk k f n d e b t ns l))]) := by
  have hH : (H ++ [AObj.box 29 (VT.enc (.mk k f n d e b t ns l))])[H.length]? = some (.box 29 (VT.enc (.mk k f n d e b t ns l))) := by simp
  rw [oload_ptr hH]
  simp [aload, agg9, size9, VT.enc]
theorem idx26 {ns : List ByteArray} {i : Nat} {H : Heap} (h : i < ns.length) : oindex E.P 26 H (.sl ns.length (namesA ns)) (.v (.int .i64 (i : Int))) = some (.val (.ep (namesA (ns.drop i))), H) := by
  rw [oindex_sl (size := 0) und26 size9 (by omega) (by omega) (by simp [namesA]; omega)]
  simp [namesA, List.map_drop]
theorem load9_ep {ns : List ByteArray} {i : Nat} {s : ByteArray} {H : Heap} (h : ns[i]? = some s) : oload E.P 9 H (.ep (namesA (ns.drop i))) = some (.val (.v (.string s)), H) := by
  obtain ⟨hi, rfl⟩ := List.getElem?_eq_some_iff.1 h
  rw [List.drop_eq_getElem_cons hi]
  simp [oload, namesA, aload, agg9, size9]
theorem code19 : E.code 19 = some (Tryz.f19, (Tryz.f19.body).get!) := by kernel_rfl

noncomputable def bodyN : Code := sub [1, 1, 1, 0, 1, 0, 0] ((Tryz.f19.body).get!)
noncomputable def bodyL : Code := sub [1, 1, 1, 1, 0, 1, 0, 0] ((Tryz.f19.body).get!)

theorem parts_names (call : CallFn) (n : Nat) (k f ng d e b t ns) (l : List VT) (H : Heap) (most : Int) (w3 : AV) (hl : ns.length < 2 ^ 40) : ∀ (q i : Nat) (m : Int) (tm : List AV), tm.length = 73 →
    tm.getD 4 (.v undef) = .ptr H.length 0 → tm.getD 9 (.v undef) = .v (.int .i64 i) → tm.getD 1 (.v undef) = .v (.int .i64 m) → tm.getD 2 (.v undef) = .v (.int .i64 most) → tm.getD 3 (.v undef) = w3 → ns.length - i < q → i ≤ ns.length →
    ∃ (tm' : List AV) (m' : Int), aloop (acode E call n bodyN) q ⟨tm, [], H ++ [.box 29 (VT.enc (.mk k f ng d e b t ns l))]⟩ = some (.exit 0, ⟨tm', [], H ++ [.box 29 (VT.enc (.mk k f ng d e b t ns l))]⟩) ∧ tm'.length = 73 ∧ tm'.getD 1 (.v undef) = .v (.int .i64 m') ∧
      tm'.getD 4 (.v undef) = .ptr H.length 0 ∧ tm'.getD 2 (.v undef) = .v (.int .i64 most) ∧ tm'.getD 3 (.v undef) = w3
  | 0, i, m, tm, _, _, _, _, _, _, h, _ => by omega
  | q + 1, i, m, tm, htm, h4, h9, h1, h2, h3, hk, hi => by
    rw [aloop_succ]
    generalize hq : acode E call n bodyN ⟨tm, [], H ++ [.box 29 (VT.enc (.mk k f ng d e b t ns l))]⟩ = r
    simp [bodyN, sub, Tryz.f19] at hq
    by_cases hlt : i < ns.length
    · obtain ⟨x, hx⟩ : ∃ x, ns[i]? = some x := ⟨ns[i], List.getElem?_eq_getElem hlt⟩
      by_cases hm : m ≤ most
      · have hw : IntKind.i64.wrap ((i : Int) + 1) = ((i + 1 : Nat) : Int) := by rw [i64_wrap (by omega) (by omega)]; omega
        simp only [aops_if, aguard_tt, aguard_ff, aguard_tf, aguard_ft, aguard_un, gslot, gval_some, aop_pick, opick_true, opick_false, List.getElem?_toArray, List.getElem?_cons_succ, List.getElem?_cons_zero, Option.bind_some, goInt, conv, convA, conv1, List.toList_toArray, Option.get!_some, ne_eq, not_false_eq_true, decide_false, decide_true, Nat.reduceEqDiff, Nat.reduceLT, Option.map_some, List.map_cons, List.map_nil, aops_nil, aops_plain, astep_val, astep_skip, astep_pan, putA_some, putA_none, aval_tmp, aval_const, aval_func, abind_normal, abind_exit, abind_ret, abind_pan, acode_seq, acode_region, acode_skip, acode_exit, acode_ret, acode_block, ablock_normal, ablock_ret, ablock_self, aop_move, aop_assign, aop_box, obox_some, aop_fieldAddr, aop_load, oload_ep, aop_store, aop_bin, obin_lss, obin_add, aop_call, aop_len, aop_max, omax_int, List.length_set, getD_set_self, getD_set_ne, htm, h4, h9, h1, h2, field5, load26, olen_sl und26, obin_leq, Int.ofNat_lt, hlt, hm, acode_true, acode_false, aop_index und26, idx26 hlt, load9_ep hx, len9, hw] at hq
        subst hq
        rw [abind_normal]
        refine parts_names call n k f ng d e b t ns l H most w3 hl q (i + 1) (IntKind.i64.wrap (m + x.size)) _ ?_ ?_ ?_ ?_ ?_ ?_ (by omega) (by omega)
        · simp only [aops_if, aguard_tt, aguard_ff, aguard_tf, aguard_ft, aguard_un, gslot, gval_some, aop_pick, opick_true, opick_false, List.getElem?_toArray, List.getElem?_cons_succ, List.getElem?_cons_zero, Option.bind_some, goInt, conv, convA, conv1, List.toList_toArray, Option.get!_some, ne_eq, not_false_eq_true, decide_false, decide_true, Nat.reduceEqDiff, Nat.reduceLT, Option.map_some, List.map_cons, List.map_nil, aops_nil, aops_plain, astep_val, astep_skip, astep_pan, putA_some, putA_none, aval_tmp, aval_const, aval_func, abind_normal, abind_exit, abind_ret, abind_pan, acode_seq, acode_region, acode_skip, acode_exit, acode_ret, acode_block, ablock_normal, ablock_ret, ablock_self, aop_move, aop_assign, aop_box, obox_some, aop_fieldAddr, aop_load, oload_ep, aop_store, aop_bin, obin_lss, obin_add, aop_call, aop_len, aop_max, omax_int, List.length_set, getD_set_self, getD_set_ne, htm]
        · simp only [aops_if, aguard_tt, aguard_ff, aguard_tf, aguard_ft, aguard_un, gslot, gval_some, aop_pick, opick_true, opick_false, List.getElem?_toArray, List.getElem?_cons_succ, List.getElem?_cons_zero, Option.bind_some, goInt, conv, convA, conv1, List.toList_toArray, Option.get!_some, ne_eq, not_false_eq_true, decide_false, decide_true, Nat.reduceEqDiff, Nat.reduceLT, Option.map_some, List.map_cons, List.map_nil, aops_nil, aops_plain, astep_val, astep_skip, astep_pan, putA_some, putA_none, aval_tmp, aval_const, aval_func, abind_normal, abind_exit, abind_ret, abind_pan, acode_seq, acode_region, acode_skip, acode_exit, acode_ret, acode_block, ablock_normal, ablock_ret, ablock_self, aop_move, aop_assign, aop_box, obox_some, aop_fieldAddr, aop_load, oload_ep, aop_store, aop_bin, obin_lss, obin_add, aop_call, aop_len, aop_max, omax_int, List.length_set, getD_set_self, getD_set_ne, htm, h4]
        · simp only [aops_if, aguard_tt, aguard_ff, aguard_tf, aguard_ft, aguard_un, gslot, gval_some, aop_pick, opick_true, opick_false, List.getElem?_toArray, List.getElem?_cons_succ, List.getElem?_cons_zero, Option.bind_some, goInt, conv, convA, conv1, List.toList_toArray, Option.get!_some, ne_eq, not_false_eq_true, decide_false, decide_true, Nat.reduceEqDiff, Nat.reduceLT, Option.map_some, List.map_cons, List.map_nil, aops_nil, aops_plain, astep_val, astep_skip, astep_pan, putA_some, putA_none, aval_tmp, aval_const, aval_func, abind_normal, abind_exit, abind_ret, abind_pan, acode_seq, acode_region, acode_skip, acode_exit, acode_ret, acode_block, ablock_normal, ablock_ret, ablock_self, aop_move, aop_assign, aop_box, obox_some, aop_fieldAddr, aop_load, oload_ep, aop_store, aop_bin, obin_lss, obin_add, aop_call, aop_len, aop_max, omax_int, List.length_set, getD_set_self, getD_set_ne, htm]
        · simp only [aops_if, aguard_tt, aguard_ff, aguard_tf, aguard_ft, aguard_un, gslot, gval_some, aop_pick, opick_true, opick_false, List.getElem?_toArray, List.getElem?_cons_succ, List.getElem?_cons_zero, Option.bind_some, goInt, conv, convA, conv1, List.toList_toArray, Option.get!_some, ne_eq, not_false_eq_true, decide_false, decide_true, Nat.reduceEqDiff, Nat.reduceLT, Option.map_some, List.map_cons, List.map_nil, aops_nil, aops_plain, astep_val, astep_skip, astep_pan, putA_some, putA_none, aval_tmp, aval_const, aval_func, abind_normal, abind_exit, abind_ret, abind_pan, acode_seq, acode_region, acode_skip, acode_exit, acode_ret, acode_block, ablock_normal, ablock_ret, ablock_self, aop_move, aop_assign, aop_box, obox_some, aop_fieldAddr, aop_load, oload_ep, aop_store, aop_bin, obin_lss, obin_add, aop_call, aop_len, aop_max, omax_int, List.length_set, getD_set_self, getD_set_ne, htm]
        · simp only [aops_if, aguard_tt, aguard_ff, aguard_tf, aguard_ft, aguard_un, gslot, gval_some, aop_pick, opick_true, opick_false, List.getElem?_toArray, List.getElem?_cons_succ, List.getElem?_cons_zero, Option.bind_some, goInt, conv, convA, conv1, List.toList_toArray, Option.get!_some, ne_eq, not_false_eq_true, decide_false, decide_true, Nat.reduceEqDiff, Nat.reduceLT, Option.map_some, List.map_cons, List.map_nil, aops_nil, aops_plain, astep_val, astep_skip, astep_pan, putA_some, putA_none, aval_tmp, aval_const, aval_func, abind_normal, abind_exit, abind_ret, abind_pan, acode_seq, acode_region, acode_skip, acode_exit, acode_ret, acode_block, ablock_normal, ablock_ret, ablock_self, aop_move, aop_assign, aop_box, obox_some, aop_fieldAddr, aop_load, oload_ep, aop_store, aop_bin, obin_lss, obin_add, aop_call, aop_len, aop_max, omax_int, List.length_set, getD_set_self, getD_set_ne, htm, h2]
        · simp only [aops_if, aguard_tt, aguard_ff, aguard_tf, aguard_ft, aguard_un, gslot, gval_some, aop_pick, opick_true, opick_false, List.getElem?_toArray, List.getElem?_cons_succ, List.getElem?_cons_zero, Option.bind_some, goInt, conv, convA, conv1, List.toList_toArray, Option.get!_some, ne_eq, not_false_eq_true, decide_false, decide_true, Nat.reduceEqDiff, Nat.reduceLT, Option.map_some, List.map_cons, List.map_nil, aops_nil, aops_plain, astep_val, astep_skip, astep_pan, putA_some, putA_none, aval_tmp, aval_const, aval_func, abind_normal, abind_exit, abind_ret, abind_pan, acode_seq, acode_region, acode_skip, acode_exit, acode_ret, acode_block, ablock_normal, ablock_ret, ablock_self, aop_move, aop_assign, aop_box, obox_some, aop_fieldAddr, aop_load, oload_ep, aop_store, aop_bin, obin_lss, obin_add, aop_call, aop_len, aop_max, omax_int, List.length_set, getD_set_self, getD_set_ne, htm, h3]
      · simp only [aops_if, aguard_tt, aguard_ff, aguard_tf, aguard_ft, aguard_un, gslot, gval_some, aop_pick, opick_true, opick_false, List.getElem?_toArray, List.getElem?_cons_succ, List.getElem?_cons_zero, Option.bind_some, goInt, conv, convA, conv1, List.toList_toArray, Option.get!_some, ne_eq, not_false_eq_true, decide_false, decide_true, Nat.reduceEqDiff, Nat.reduceLT, Option.map_some, List.map_cons, List.map_nil, aops_nil, aops_plain, astep_val, astep_skip, astep_pan, putA_some, putA_none, aval_tmp, aval_const, aval_func, abind_normal, abind_exit, abind_ret, abind_pan, acode_seq, acode_region, acode_skip, acode_exit, acode_ret, acode_block, ablock_normal, ablock_ret, ablock_self, aop_move, aop_assign, aop_box, obox_some, aop_fieldAddr, aop_load, oload_ep, aop_store, aop_bin, obin_lss, obin_add, aop_call, aop_len, aop_max, omax_int, List.length_set, getD_set_self, getD_set_ne, htm, h4, h9, h1, h2, field5, load26, olen_sl und26, obin_leq, Int.ofNat_lt, hlt, hm, acode_true, acode_false] at hq
        subst hq
        exact ⟨_, m, rfl, by simp only [aops_if, aguard_tt, aguard_ff, aguard_tf, aguard_ft, aguard_un, gslot, gval_some, aop_pick, opick_true, opick_false, List.getElem?_toArray, List.getElem?_cons_succ, List.getElem?_cons_zero, Option.bind_some, goInt, conv, convA, conv1, List.toList_toArray, Option.get!_some, ne_eq, not_false_eq_true, decide_false, decide_true, Nat.reduceEqDiff, Nat.reduceLT, Option.map_some, List.map_cons, List.map_nil, aops_nil, aops_plain, astep_val, astep_skip, astep_pan, putA_some, putA_none, aval_tmp, aval_const, aval_func, abind_normal, abind_exit, abind_ret, abind_pan, acode_seq, acode_region, acode_skip, acode_exit, acode_ret, acode_block, ablock_normal, ablock_ret, ablock_self, aop_move, aop_assign, aop_box, obox_some, aop_fieldAddr, aop_load, oload_ep, aop_store, aop_bin, obin_lss, obin_add, aop_call, aop_len, aop_max, omax_int, List.length_set, getD_set_self, getD_set_ne, htm], by simp only [aops_if, aguard_tt, aguard_ff, aguard_tf, aguard_ft, aguard_un, gslot, gval_some, aop_pick, opick_true, opick_false, List.getElem?_toArray, List.getElem?_cons_succ, List.getElem?_cons_zero, Option.bind_some, goInt, conv, convA, conv1, List.toList_toArray, Option.get!_some, ne_eq, not_false_eq_true, decide_false, decide_true, Nat.reduceEqDiff, Nat.reduceLT, Option.map_some, List.map_cons, List.map_nil, aops_nil, aops_plain, astep_val, astep_skip, astep_pan, putA_some, putA_none, aval_tmp, aval_const, aval_func, abind_normal, abind_exit, abind_ret, abind_pan, acode_seq, acode_region, acode_skip, acode_exit, acode_ret, acode_block, ablock_normal, ablock_ret, ablock_self, aop_move, aop_assign, aop_box, obox_some, aop_fieldAddr, aop_load, oload_ep, aop_store, aop_bin, obin_lss, obin_add, aop_call, aop_len, aop_max, omax_int, List.length_set, getD_set_self, getD_set_ne, htm, h1], by simp only [aops_if, aguard_tt, aguard_ff, aguard_tf, aguard_ft, aguard_un, gslot, gval_some, aop_pick, opick_true, opick_false, List.getElem?_toArray, List.getElem?_cons_succ, List.getElem?_cons_zero, Option.bind_some, goInt, conv, convA, conv1, List.toList_toArray, Option.get!_some, ne_eq, not_false_eq_true, decide_false, decide_true, Nat.reduceEqDiff, Nat.reduceLT, Option.map_some, List.map_cons, List.map_nil, aops_nil, aops_plain, astep_val, astep_skip, astep_pan, putA_some, putA_none, aval_tmp, aval_const, aval_func, abind_normal, abind_exit, abind_ret, abind_pan, acode_seq, acode_region, acode_skip, acode_exit, acode_ret, acode_block, ablock_normal, ablock_ret, ablock_self, aop_move, aop_assign, aop_box, obox_some, aop_fieldAddr, aop_load, oload_ep, aop_store, aop_bin, obin_lss, obin_add, aop_call, aop_len, aop_max, omax_int, List.length_set, getD_set_self, getD_set_ne, htm, h4], by simp only [aops_if, aguard_tt, aguard_ff, aguard_tf, aguard_ft, aguard_un, gslot, gval_some, aop_pick, opick_true, opick_false, List.getElem?_toArray, List.getElem?_cons_succ, List.getElem?_cons_zero, Option.bind_some, goInt, conv, convA, conv1, List.toList_toArray, Option.get!_some, ne_eq, not_false_eq_true, decide_false, decide_true, Nat.reduceEqDiff, Nat.reduceLT, Option.map_some, List.map_cons, List.map_nil, aops_nil, aops_plain, astep_val, astep_skip, astep_pan, putA_some, putA_none, aval_tmp, aval_const, aval_func, abind_normal, abind_exit, abind_ret, abind_pan, acode_seq, acode_region, acode_skip, acode_exit, acode_ret, acode_block, ablock_normal, ablock_ret, ablock_self, aop_move, aop_assign, aop_box, obox_some, aop_fieldAddr, aop_load, oload_ep, aop_store, aop_bin, obin_lss, obin_add, aop_call, aop_len, aop_max, omax_int, List.length_set, getD_set_self, getD_set_ne, htm, h2], by simp only [aops_if, aguard_tt, aguard_ff, aguard_tf, aguard_ft, aguard_un, gslot, gval_some, aop_pick, opick_true, opick_false, List.getElem?_toArray, List.getElem?_cons_succ, List.getElem?_cons_zero, Option.bind_some, goInt, conv, convA, conv1, List.toList_toArray, Option.get!_some, ne_eq, not_false_eq_true, decide_false, decide_true, Nat.reduceEqDiff, Nat.reduceLT, Option.map_some, List.map_cons, List.map_nil, aops_nil, aops_plain, astep_val, astep_skip, astep_pan, putA_some, putA_none, aval_tmp, aval_const, aval_func, abind_normal, abind_exit, abind_ret, abind_pan, acode_seq, acode_region, acode_skip, acode_exit, acode_ret, acode_block, ablock_normal, ablock_ret, ablock_self, aop_move, aop_assign, aop_box, obox_some, aop_fieldAddr, aop_load, oload_ep, aop_store, aop_bin, obin_lss, obin_add, aop_call, aop_len, aop_max, omax_int, List.length_set, getD_set_self, getD_set_ne, htm, h3]⟩
    · have : i = ns.length := by omega
      subst this
      simp only [aops_if, aguard_tt, aguard_ff, aguard_tf, aguard_ft, aguard_un, gslot, gval_some, aop_pick, opick_true, opick_false, List.getElem?_toArray, List.getElem?_cons_succ, List.getElem?_cons_zero, Option.bind_some, goInt, conv, convA, conv1, List.toList_toArray, Option.get!_some, ne_eq, not_false_eq_true, decide_false, decide_true, Nat.reduceEqDiff, Nat.reduceLT, Option.map_some, List.map_cons, List.map_nil, aops_nil, aops_plain, astep_val, astep_skip, astep_pan, putA_some, putA_none, aval_tmp, aval_const, aval_func, abind_normal, abind_exit, abind_ret, abind_pan, acode_seq, acode_region, acode_skip, acode_exit, acode_ret, acode_block, ablock_normal, ablock_ret, ablock_self, aop_move, aop_assign, aop_box, obox_some, aop_fieldAddr, aop_load, oload_ep, aop_store, aop_bin, obin_lss, obin_add, aop_call, aop_len, aop_max, omax_int, List.length_set, getD_set_self, getD_set_ne, htm, h4, h9, h1, h2, field5, load26, olen_sl und26, Int.lt_irrefl, acode_true, acode_false] at hq
      subst hq
      exact ⟨_, m, rfl, by simp only [aops_if, aguard_tt, aguard_ff, aguard_tf, aguard_ft, aguard_un, gslot, gval_some, aop_pick, opick_true, opick_false, List.getElem?_toArray, List.getElem?_cons_succ, List.getElem?_cons_zero, Option.bind_some, goInt, conv, convA, conv1, List.toList_toArray, Option.get!_some, ne_eq, not_false_eq_true, decide_false, decide_true, Nat.reduceEqDiff, Nat.reduceLT, Option.map_some, List.map_cons, List.map_nil, aops_nil, aops_plain, astep_val, astep_skip, astep_pan, putA_some, putA_none, aval_tmp, aval_const, aval_func, abind_normal, abind_exit, abind_ret, abind_pan, acode_seq, acode_region, acode_skip, acode_exit, acode_ret, acode_block, ablock_normal, ablock_ret, ablock_self, aop_move, aop_assign, aop_box, obox_some, aop_fieldAddr, aop_load, oload_ep, aop_store, aop_bin, obin_lss, obin_add, aop_call, aop_len, aop_max, omax_int, List.length_set, getD_set_self, getD_set_ne, htm], by simp only [aops_if, aguard_tt, aguard_ff, aguard_tf, aguard_ft, aguard_un, gslot, gval_some, aop_pick, opick_true, opick_false, List.getElem?_toArray, List.getElem?_cons_succ, List.getElem?_cons_zero, Option.bind_some, goInt, conv, convA, conv1, List.toList_toArray, Option.get!_some, ne_eq, not_false_eq_true, decide_false, decide_true, Nat.reduceEqDiff, Nat.reduceLT, Option.map_some, List.map_cons, List.map_nil, aops_nil, aops_plain, astep_val, astep_skip, astep_pan, putA_some, putA_none, aval_tmp, aval_const, aval_func, abind_normal, abind_exit, abind_ret, abind_pan, acode_seq, acode_region, acode_skip, acode_exit, acode_ret, acode_block, ablock_normal, ablock_ret, ablock_self, aop_move, aop_assign, aop_box, obox_some, aop_fieldAddr, aop_load, oload_ep, aop_store, aop_bin, obin_lss, obin_add, aop_call, aop_len, aop_max, omax_int, List.length_set, getD_set_self, getD_set_ne, htm, h1], by simp only [aops_if, aguard_tt, aguard_ff, aguard_tf, aguard_ft, aguard_un, gslot, gval_some, aop_pick, opick_true, opick_false, List.getElem?_toArray, List.getElem?_cons_succ, List.getElem?_cons_zero, Option.bind_some, goInt, conv, convA, conv1, List.toList_toArray, Option.get!_some, ne_eq, not_false_eq_true, decide_false, decide_true, Nat.reduceEqDiff, Nat.reduceLT, Option.map_some, List.map_cons, List.map_nil, aops_nil, aops_plain, astep_val, astep_skip, astep_pan, putA_some, putA_none, aval_tmp, aval_const, aval_func, abind_normal, abind_exit, abind_ret, abind_pan, acode_seq, acode_region, acode_skip, acode_exit, acode_ret, acode_block, ablock_normal, ablock_ret, ablock_self, aop_move, aop_assign, aop_box, obox_some, aop_fieldAddr, aop_load, oload_ep, aop_store, aop_bin, obin_lss, obin_add, aop_call, aop_len, aop_max, omax_int, List.length_set, getD_set_self, getD_set_ne, htm, h4], by simp only [aops_if, aguard_tt, aguard_ff, aguard_tf, aguard_ft, aguard_un, gslot, gval_some, aop_pick, opick_true, opick_false, List.getElem?_toArray, List.getElem?_cons_succ, List.getElem?_cons_zero, Option.bind_some, goInt, conv, convA, conv1, List.toList_toArray, Option.get!_some, ne_eq, not_false_eq_true, decide_false, decide_true, Nat.reduceEqDiff, Nat.reduceLT, Option.map_some, List.map_cons, List.map_nil, aops_nil, aops_plain, astep_val, astep_skip, astep_pan, putA_some, putA_none, aval_tmp, aval_const, aval_func, abind_normal, abind_exit, abind_ret, abind_pan, acode_seq, acode_region, acode_skip, acode_exit, acode_ret, acode_block, ablock_normal, ablock_ret, ablock_self, aop_move, aop_assign, aop_box, obox_some, aop_fieldAddr, aop_load, oload_ep, aop_store, aop_bin, obin_lss, obin_add, aop_call, aop_len, aop_max, omax_int, List.length_set, getD_set_self, getD_set_ne, htm, h2], by simp only [aops_if, aguard_tt, aguard_ff, aguard_tf, aguard_ft, aguard_un, gslot, gval_some, aop_pick, opick_true, opick_false, List.getElem?_toArray, List.getElem?_cons_succ, List.getElem?_cons_zero, Option.bind_some, goInt, conv, convA, conv1, List.toList_toArray, Option.get!_some, ne_eq, not_false_eq_true, decide_false, decide_true, Nat.reduceEqDiff, Nat.reduceLT, Option.map_some, List.map_cons, List.map_nil, aops_nil, aops_plain, astep_val, astep_skip, astep_pan, putA_some, putA_none, aval_tmp, aval_const, aval_func, abind_normal, abind_exit, abind_ret, abind_pan, acode_seq, acode_region, acode_skip, acode_exit, acode_ret, acode_block, ablock_normal, ablock_ret, ablock_self, aop_move, aop_assign, aop_box, obox_some, aop_fieldAddr, aop_load, oload_ep, aop_store, aop_bin, obin_lss, obin_add, aop_call, aop_len, aop_max, omax_int, List.length_set, getD_set_self, getD_set_ne, htm, h3]⟩

theorem parts_list (call : CallFn) (n : Nat) (k f ng d e b t ns) (l : List VT) (H : Heap) (most within : Int) (hcall : ∀ x ∈ l, ∀ H, OkH H → ∀ a b c : Int, ∃ r : Int, call 19 [.agg x.enc, .v (.int .i64 a), .v (.int .i64 b), .v (.int .i64 c)] H = some (.ret (.v (.int .i64 r)), H))
    (hok : OkH (H ++ [.box 29 (VT.enc (.mk k f ng d e b t ns l))])) (hl : l.length < 2 ^ 40) : ∀ (q i : Nat) (m : Int) (tm : List AV), tm.length = 73 →
    tm.getD 4 (.v undef) = .ptr H.length 0 → tm.getD 10 (.v undef) = .v (.int .i64 i) → tm.getD 1 (.v undef) = .v (.int .i64 m) → tm.getD 2 (.v undef) = .v (.int .i64 most) → tm.getD 3 (.v undef) = .v (.int .i64 within) → l.length - i < q → i ≤ l.length →
    ∃ (tm' : List AV) (m' : Int), aloop (acode E call n bodyL) q ⟨tm, [], H ++ [.box 29 (VT.enc (.mk k f ng d e b t ns l))]⟩ = some (.exit 2, ⟨tm', [], H ++ [.box 29 (VT.enc (.mk k f ng d e b t ns l))]⟩) ∧ tm'.length = 73 ∧ tm'.getD 1 (.v undef) = .v (.int .i64 m')
  | 0, i, m, tm, _, _, _, _, _, _, h, _ => by omega
  | q + 1, i, m, tm, htm, h4, h9, h1, h2, h3, hk, hi => by
    rw [aloop_succ]
    generalize hq : acode E call n bodyL ⟨tm, [], H ++ [.box 29 (VT.enc (.mk k f ng d e b t ns l))]⟩ = r
    simp [bodyL, sub, Tryz.f19] at hq
    by_cases hlt : i < l.length
    · obtain ⟨x, hx⟩ : ∃ x, l[i]? = some x := ⟨l[i], List.getElem?_eq_getElem hlt⟩
      by_cases hm : m ≤ most
      · have hw : IntKind.i64.wrap ((i : Int) + 1) = ((i + 1 : Nat) : Int) := by rw [i64_wrap (by omega) (by omega)]; omega
        obtain ⟨rr, hrr⟩ := hcall x (List.mem_of_getElem? hx) _ hok m most (IntKind.i64.wrap (within + 1))
        simp only [aops_if, aguard_tt, aguard_ff, aguard_tf, aguard_ft, aguard_un, gslot, gval_some, aop_pick, opick_true, opick_false, List.getElem?_toArray, List.getElem?_cons_succ, List.getElem?_cons_zero, Option.bind_some, goInt, conv, convA, conv1, List.toList_toArray, Option.get!_some, ne_eq, not_false_eq_true, decide_false, decide_true, Nat.reduceEqDiff, Nat.reduceLT, Option.map_some, List.map_cons, List.map_nil, aops_nil, aops_plain, astep_val, astep_skip, astep_pan, putA_some, putA_none, aval_tmp, aval_const, aval_func, abind_normal, abind_exit, abind_ret, abind_pan, acode_seq, acode_region, acode_skip, acode_exit, acode_ret, acode_block, ablock_normal, ablock_ret, ablock_self, aop_move, aop_assign, aop_box, obox_some, aop_fieldAddr, aop_load, oload_ep, aop_store, aop_bin, obin_lss, obin_add, aop_call, aop_len, aop_max, omax_int, List.length_set, getD_set_self, getD_set_ne, htm, h4, h9, h1, h2, h3, field6, load27, olen_sl und27, obin_leq, Int.ofNat_lt, hlt, hm, acode_true, acode_false, aop_index und27, idx27 hlt, load29_ep hx, ocall_fn code19, astep_enter hrr, hw] at hq
        subst hq
        rw [abind_normal]
        refine parts_list call n k f ng d e b t ns l H most within hcall hok hl q (i + 1) rr _ ?_ ?_ ?_ ?_ ?_ ?_ (by omega) (by omega)
        · simp only [aops_if, aguard_tt, aguard_ff, aguard_tf, aguard_ft, aguard_un, gslot, gval_some, aop_pick, opick_true, opick_false, List.getElem?_toArray, List.getElem?_cons_succ, List.getElem?_cons_zero, Option.bind_some, goInt, conv, convA, conv1, List.toList_toArray, Option.get!_some, ne_eq, not_false_eq_true, decide_false, decide_true, Nat.reduceEqDiff, Nat.reduceLT, Option.map_some, List.map_cons, List.map_nil, aops_nil, aops_plain, astep_val, astep_skip, astep_pan, putA_some, putA_none, aval_tmp, aval_const, aval_func, abind_normal, abind_exit, abind_ret, abind_pan, acode_seq, acode_region, acode_skip, acode_exit, acode_ret, acode_block, ablock_normal, ablock_ret, ablock_self, aop_move, aop_assign, aop_box, obox_some, aop_fieldAddr, aop_load, oload_ep, aop_store, aop_bin, obin_lss, obin_add, aop_call, aop_len, aop_max, omax_int, List.length_set, getD_set_self, getD_set_ne, htm]
        · simp only [aops_if, aguard_tt, aguard_ff, aguard_tf, aguard_ft, aguard_un, gslot, gval_some, aop_pick, opick_true, opick_false, List.getElem?_toArray, List.getElem?_cons_succ, List.getElem?_cons_zero, Option.bind_some, goInt, conv, convA, conv1, List.toList_toArray, Option.get!_some, ne_eq, not_false_eq_true, decide_false, decide_true, Nat.reduceEqDiff, Nat.reduceLT, Option.map_some, List.map_cons, List.map_nil, aops_nil, aops_plain, astep_val, astep_skip, astep_pan, putA_some, putA_none, aval_tmp, aval_const, aval_func, abind_normal, abind_exit, abind_ret, abind_pan, acode_seq, acode_region, acode_skip, acode_exit, acode_ret, acode_block, ablock_normal, ablock_ret, ablock_self, aop_move, aop_assign, aop_box, obox_some, aop_fieldAddr, aop_load, oload_ep, aop_store, aop_bin, obin_lss, obin_add, aop_call, aop_len, aop_max, omax_int, List.length_set, getD_set_self, getD_set_ne, htm, h4]
        · simp only [aops_if, aguard_tt, aguard_ff, aguard_tf, aguard_ft, aguard_un, gslot, gval_some, aop_pick, opick_true, opick_false, List.getElem?_toArray, List.getElem?_cons_succ, List.getElem?_cons_zero, Option.bind_some, goInt, conv, convA, conv1, List.toList_toArray, Option.get!_some, ne_eq, not_false_eq_true, decide_false, decide_true, Nat.reduceEqDiff, Nat.reduceLT, Option.map_some, List.map_cons, List.map_nil, aops_nil, aops_plain, astep_val, astep_skip, astep_pan, putA_some, putA_none, aval_tmp, aval_const, aval_func, abind_normal, abind_exit, abind_ret, abind_pan, acode_seq, acode_region, acode_skip, acode_exit, acode_ret, acode_block, ablock_normal, ablock_ret, ablock_self, aop_move, aop_assign, aop_box, obox_some, aop_fieldAddr, aop_load, oload_ep, aop_store, aop_bin, obin_lss, obin_add, aop_call, aop_len, aop_max, omax_int, List.length_set, getD_set_self, getD_set_ne, htm]
        · simp only [aops_if, aguard_tt, aguard_ff, aguard_tf, aguard_ft, aguard_un, gslot, gval_some, aop_pick, opick_true, opick_false, List.getElem?_toArray, List.getElem?_cons_succ, List.getElem?_cons_zero, Option.bind_some, goInt, conv, convA, conv1, List.toList_toArray, Option.get!_some, ne_eq, not_false_eq_true, decide_false, decide_true, Nat.reduceEqDiff, Nat.reduceLT, Option.map_some, List.map_cons, List.map_nil, aops_nil, aops_plain, astep_val, astep_skip, astep_pan, putA_some, putA_none, aval_tmp, aval_const, aval_func, abind_normal, abind_exit, abind_ret, abind_pan, acode_seq, acode_region, acode_skip, acode_exit, acode_ret, acode_block, ablock_normal, ablock_ret, ablock_self, aop_move, aop_assign, aop_box, obox_some, aop_fieldAddr, aop_load, oload_ep, aop_store, aop_bin, obin_lss, obin_add, aop_call, aop_len, aop_max, omax_int, List.length_set, getD_set_self, getD_set_ne, htm]
        · simp only [aops_if, aguard_tt, aguard_ff, aguard_tf, aguard_ft, aguard_un, gslot, gval_some, aop_pick, opick_true, opick_false, List.getElem?_toArray, List.getElem?_cons_succ, List.getElem?_cons_zero, Option.bind_some, goInt, conv, convA, conv1, List.toList_toArray, Option.get!_some, ne_eq, not_false_eq_true, decide_false, decide_true, Nat.reduceEqDiff, Nat.reduceLT, Option.map_some, List.map_cons, List.map_nil, aops_nil, aops_plain, astep_val, astep_skip, astep_pan, putA_some, putA_none, aval_tmp, aval_const, aval_func, abind_normal, abind_exit, abind_ret, abind_pan, acode_seq, acode_region, acode_skip, acode_exit, acode_ret, acode_block, ablock_normal, ablock_ret, ablock_self, aop_move, aop_assign, aop_box, obox_some, aop_fieldAddr, aop_load, oload_ep, aop_store, aop_bin, obin_lss, obin_add, aop_call, aop_len, aop_max, omax_int, List.length_set, getD_set_self, getD_set_ne, htm, h2]
        · simp only [aops_if, aguard_tt, aguard_ff, aguard_tf, aguard_ft, aguard_un, gslot, gval_some, aop_pick, opick_true, opick_false, List.getElem?_toArray, List.getElem?_cons_succ, List.getElem?_cons_zero, Option.bind_some, goInt, conv, convA, conv1, List.toList_toArray, Option.get!_some, ne_eq, not_false_eq_true, decide_false, decide_true, Nat.reduceEqDiff, Nat.reduceLT, Option.map_some, List.map_cons, List.map_nil, aops_nil, aops_plain, astep_val, astep_skip, astep_pan, putA_some, putA_none, aval_tmp, aval_const, aval_func, abind_normal, abind_exit, abind_ret, abind_pan, acode_seq, acode_region, acode_skip, acode_exit, acode_ret, acode_block, ablock_normal, ablock_ret, ablock_self, aop_move, aop_assign, aop_box, obox_some, aop_fieldAddr, aop_load, oload_ep, aop_store, aop_bin, obin_lss, obin_add, aop_call, aop_len, aop_max, omax_int, List.length_set, getD_set_self, getD_set_ne, htm, h3]
      · simp only [aops_if, aguard_tt, aguard_ff, aguard_tf, aguard_ft, aguard_un, gslot, gval_some, aop_pick, opick_true, opick_false, List.getElem?_toArray, List.getElem?_cons_succ, List.getElem?_cons_zero, Option.bind_some, goInt, conv, convA, conv1, List.toList_toArray, Option.get!_some, ne_eq, not_false_eq_true, decide_false, decide_true, Nat.reduceEqDiff, Nat.reduceLT, Option.map_some, List.map_cons, List.map_nil, aops_nil, aops_plain, astep_val, astep_skip, astep_pan, putA_some, putA_none, aval_tmp, aval_const, aval_func, abind_normal, abind_exit, abind_ret, abind_pan, acode_seq, acode_region, acode_skip, acode_exit, acode_ret, acode_block, ablock_normal, ablock_ret, ablock_self, aop_move, aop_assign, aop_box, obox_some, aop_fieldAddr, aop_load, oload_ep, aop_store, aop_bin, obin_lss, obin_add, aop_call, aop_len, aop_max, omax_int, List.length_set, getD_set_self, getD_set_ne, htm, h4, h9, h1, h2, field6, load27, olen_sl und27, obin_leq, Int.ofNat_lt, hlt, hm, acode_true, acode_false] at hq
        subst hq
        exact ⟨_, m, rfl, by simp only [aops_if, aguard_tt, aguard_ff, aguard_tf, aguard_ft, aguard_un, gslot, gval_some, aop_pick, opick_true, opick_false, List.getElem?_toArray, List.getElem?_cons_succ, List.getElem?_cons_zero, Option.bind_some, goInt, conv, convA, conv1, List.toList_toArray, Option.get!_some, ne_eq, not_false_eq_true, decide_false, decide_true, Nat.reduceEqDiff, Nat.reduceLT, Option.map_some, List.map_cons, List.map_nil, aops_nil, aops_plain, astep_val, astep_skip, astep_pan, putA_some, putA_none, aval_tmp, aval_const, aval_func, abind_normal, abind_exit, abind_ret, abind_pan, acode_seq, acode_region, acode_skip, acode_exit, acode_ret, acode_block, ablock_normal, ablock_ret, ablock_self, aop_move, aop_assign, aop_box, obox_some, aop_fieldAddr, aop_load, oload_ep, aop_store, aop_bin, obin_lss, obin_add, aop_call, aop_len, aop_max, omax_int, List.length_set, getD_set_self, getD_set_ne, htm], by simp only [aops_if, aguard_tt, aguard_ff, aguard_tf, aguard_ft, aguard_un, gslot, gval_some, aop_pick, opick_true, opick_false, List.getElem?_toArray, List.getElem?_cons_succ, List.getElem?_cons_zero, Option.bind_some, goInt, conv, convA, conv1, List.toList_toArray, Option.get!_some, ne_eq, not_false_eq_true, decide_false, decide_true, Nat.reduceEqDiff, Nat.reduceLT, Option.map_some, List.map_cons, List.map_nil, aops_nil, aops_plain, astep_val, astep_skip, astep_pan, putA_some, putA_none, aval_tmp, aval_const, aval_func, abind_normal, abind_exit, abind_ret, abind_pan, acode_seq, acode_region, acode_skip, acode_exit, acode_ret, acode_block, ablock_normal, ablock_ret, ablock_self, aop_move, aop_assign, aop_box, obox_some, aop_fieldAddr, aop_load, oload_ep, aop_store, aop_bin, obin_lss, obin_add, aop_call, aop_len, aop_max, omax_int, List.length_set, getD_set_self, getD_set_ne, htm, h1]⟩
    · have : i = l.length := by omega
      subst this
      simp only [aops_if, aguard_tt, aguard_ff, aguard_tf, aguard_ft, aguard_un, gslot, gval_some, aop_pick, opick_true, opick_false, List.getElem?_toArray, List.getElem?_cons_succ, List.getElem?_cons_zero, Option.bind_some, goInt, conv, convA, conv1, List.toList_toArray, Option.get!_some, ne_eq, not_false_eq_true, decide_false, decide_true, Nat.reduceEqDiff, Nat.reduceLT, Option.map_some, List.map_cons, List.map_nil, aops_nil, aops_plain, astep_val, astep_skip, astep_pan, putA_some, putA_none, aval_tmp, aval_const, aval_func, abind_normal, abind_exit, abind_ret, abind_pan, acode_seq, acode_region, acode_skip, acode_exit, acode_ret, acode_block, ablock_normal, ablock_ret, ablock_self, aop_move, aop_assign, aop_box, obox_some, aop_fieldAddr, aop_load, oload_ep, aop_store, aop_bin, obin_lss, obin_add, aop_call, aop_len, aop_max, omax_int, List.length_set, getD_set_self, getD_set_ne, htm, h4, h9, h1, h2, field6, load27, olen_sl und27, Int.lt_irrefl, acode_true, acode_false] at hq
      subst hq
      exact ⟨_, m, rfl, by simp only [aops_if, aguard_tt, aguard_ff, aguard_tf, aguard_ft, aguard_un, gslot, gval_some, aop_pick, opick_true, opick_false, List.getElem?_toArray, List.getElem?_cons_succ, List.getElem?_cons_zero, Option.bind_some, goInt, conv, convA, conv1, List.toList_toArray, Option.get!_some, ne_eq, not_false_eq_true, decide_false, decide_true, Nat.reduceEqDiff, Nat.reduceLT, Option.map_some, List.map_cons, List.map_nil, aops_nil, aops_plain, astep_val, astep_skip, astep_pan, putA_some, putA_none, aval_tmp, aval_const, aval_func, abind_normal, abind_exit, abind_ret, abind_pan, acode_seq, acode_region, acode_skip, acode_exit, acode_ret, acode_block, ablock_normal, ablock_ret, ablock_self, aop_move, aop_assign, aop_box, obox_some, aop_fieldAddr, aop_load, oload_ep, aop_store, aop_bin, obin_lss, obin_add, aop_call, aop_len, aop_max, omax_int, List.length_set, getD_set_self, getD_set_ne, htm], by simp only [aops_if, aguard_tt, aguard_ff, aguard_tf, aguard_ft, aguard_un, gslot, gval_some, aop_pick, opick_true, opick_false, List.getElem?_toArray, List.getElem?_cons_succ, List.getElem?_cons_zero, Option.bind_some, goInt, conv, convA, conv1, List.toList_toArray, Option.get!_some, ne_eq, not_false_eq_true, decide_false, decide_true, Nat.reduceEqDiff, Nat.reduceLT, Option.map_some, List.map_cons, List.map_nil, aops_nil, aops_plain, astep_val, astep_skip, astep_pan, putA_some, putA_none, aval_tmp, aval_const, aval_func, abind_normal, abind_exit, abind_ret, abind_pan, acode_seq, acode_region, acode_skip, acode_exit, acode_ret, acode_block, ablock_normal, ablock_ret, ablock_self, aop_move, aop_assign, aop_box, obox_some, aop_fieldAddr, aop_load, oload_ep, aop_store, aop_bin, obin_lss, obin_add, aop_call, aop_len, aop_max, omax_int, List.length_set, getD_set_self, getD_set_ne, htm, h1]⟩

theorem parts_ok (orc : Orc) (ho : orc 19 = none) : ∀ (v : VT), v.need < 2 ^ 40 → ∀ n, v.need ≤ n → ∀ H, OkH H → ∀ a b c : Int, ∃ r : Int, acall E orc n 19 [.agg v.enc, .v (.int .i64 a), .v (.int .i64 b), .v (.int .i64 c)] H = some (.ret (.v (.int .i64 r)), H)
  | .mk k f ng d e b t ns l, hv, n, hn, H, hH, pa, pb, pc => by
    obtain ⟨n, rfl⟩ : ∃ m, n = m + 1 := ⟨n - 1, by simp only [VT.need] at hn; omega⟩
    have hc : ∀ x ∈ l, ∀ H, OkH H → ∀ a b c : Int, ∃ r : Int, acall E orc n 19 [.agg x.enc, .v (.int .i64 a), .v (.int .i64 b), .v (.int .i64 c)] H = some (.ret (.v (.int .i64 r)), H) := by
      intro x hx
      have := need_mem hx
      exact parts_ok orc ho x (by simp only [VT.need] at hv; omega) n (by simp only [VT.need] at hn; omega)
    have hl : l.length < 2 ^ 40 := by simp only [VT.need] at hv; omega
    have hln : l.length < n := by simp only [VT.need] at hn; omega
    have hnl : ns.length < 2 ^ 40 := by simp only [VT.need] at hv; omega
    have hnn : ns.length < n := by simp only [VT.need] at hn; omega
    have hok := okH_box (t := 29) hH (enc_under (.mk k f ng d e b t ns l))
    generalize hcall : acall E orc n = call at hc
    obtain ⟨tm, ext, r, hx, ht⟩ : ∃ tm ext r, acode E call n (Tryz.f19.body.get!) (aframe E Tryz.f19 [.agg (VT.enc (.mk k f ng d e b t ns l)), .v (.int .i64 pa), .v (.int .i64 pb), .v (.int .i64 pc)] H) = some (.ret, ⟨tm, [], H ++ ext⟩) ∧ tm.getD 8 (.v undef) = .v (.int .i64 r) := by
      obtain ⟨tm0, htm, h0, h1, h2, h3, hfr⟩ : ∃ tm0 : List AV, tm0.length = 73 ∧ tm0.getD 0 (.v undef) = .agg (VT.enc (.mk k f ng d e b t ns l)) ∧ tm0.getD 1 (.v undef) = .v (.int .i64 pa) ∧ tm0.getD 2 (.v undef) = .v (.int .i64 pb) ∧ tm0.getD 3 (.v undef) = .v (.int .i64 pc) ∧
        aframe E Tryz.f19 [.agg (VT.enc (.mk k f ng d e b t ns l)), .v (.int .i64 pa), .v (.int .i64 pb), .v (.int .i64 pc)] H = ⟨tm0, [], H⟩ := ⟨_, rfl, rfl, rfl, rfl, rfl, rfl⟩
      rw [hfr]
      generalize hq : acode E call n (Tryz.f19.body.get!) ⟨tm0, [], H⟩ = q
      simp [Tryz.f19] at hq
      by_cases hw : pc > 300
      · simp only [aops_if, aguard_tt, aguard_ff, aguard_tf, aguard_ft, aguard_un, gslot, gval_some, aop_pick, opick_true, opick_false, List.getElem?_toArray, List.getElem?_cons_succ, List.getElem?_cons_zero, Option.bind_some, goInt, conv, convA, conv1, List.toList_toArray, Option.get!_some, ne_eq, not_false_eq_true, decide_false, decide_true, Nat.reduceEqDiff, Nat.reduceLT, Option.map_some, List.map_cons, List.map_nil, aops_nil, aops_plain, astep_val, astep_skip, astep_pan, putA_some, putA_none, aval_tmp, aval_const, aval_func, abind_normal, abind_exit, abind_ret, abind_pan, acode_seq, acode_region, acode_skip, acode_exit, acode_ret, acode_block, ablock_normal, ablock_ret, ablock_self, aop_move, aop_assign, aop_box, obox_some, aop_fieldAddr, aop_load, oload_ep, aop_store, aop_bin, obin_lss, obin_add, aop_call, aop_len, aop_max, omax_int, List.length_set, getD_set_self, getD_set_ne, htm, h0, h1, h2, h3, AV.cells?, obin_gtr, hw, acode_true] at hq
        subst hq
        exact ⟨_, _, _, rfl, by simp only [aops_if, aguard_tt, aguard_ff, aguard_tf, aguard_ft, aguard_un, gslot, gval_some, aop_pick, opick_true, opick_false, List.getElem?_toArray, List.getElem?_cons_succ, List.getElem?_cons_zero, Option.bind_some, goInt, conv, convA, conv1, List.toList_toArray, Option.get!_some, ne_eq, not_false_eq_true, decide_false, decide_true, Nat.reduceEqDiff, Nat.reduceLT, Option.map_some, List.map_cons, List.map_nil, aops_nil, aops_plain, astep_val, astep_skip, astep_pan, putA_some, putA_none, aval_tmp, aval_const, aval_func, abind_normal, abind_exit, abind_ret, abind_pan, acode_seq, acode_region, acode_skip, acode_exit, acode_ret, acode_block, ablock_normal, ablock_ret, ablock_self, aop_move, aop_assign, aop_box, obox_some, aop_fieldAddr, aop_load, oload_ep, aop_store, aop_bin, obin_lss, obin_add, aop_call, aop_len, aop_max, omax_int, List.length_set, getD_set_self, getD_set_ne, htm]; rfl⟩
      · simp only [aops_if, aguard_tt, aguard_ff, aguard_tf, aguard_ft, aguard_un, gslot, gval_some, aop_pick, opick_true, opick_false, List.getElem?_toArray, List.getElem?_cons_succ, List.getElem?_cons_zero, Option.bind_some, goInt, conv, convA, conv1, List.toList_toArray, Option.get!_some, ne_eq, not_false_eq_true, decide_false, decide_true, Nat.reduceEqDiff, Nat.reduceLT, Option.map_some, List.map_cons, List.map_nil, aops_nil, aops_plain, astep_val, astep_skip, astep_pan, putA_some, putA_none, aval_tmp, aval_const, aval_func, abind_normal, abind_exit, abind_ret, abind_pan, acode_seq, acode_region, acode_skip, acode_exit, acode_ret, acode_block, ablock_normal, ablock_ret, ablock_self, aop_move, aop_assign, aop_box, obox_some, aop_fieldAddr, aop_load, oload_ep, aop_store, aop_bin, obin_lss, obin_add, aop_call, aop_len, aop_max, omax_int, List.length_set, getD_set_self, getD_set_ne, htm, h0, h1, h2, h3, AV.cells?, obin_gtr, hw, acode_false, field4, loadText, len9, field2, fieldN1, loadDigits, field5, load26, olen_sl und26] at hq
        generalize hX : acode E call n (Code.loop _) _ = X at hq
        rw [acode_loop] at hX
        have hX2 : ∃ (tm' : List AV) (m' : Int), X = some (.exit 0, ⟨tm', [], H ++ [.box 29 (VT.enc (.mk k f ng d e b t ns l))]⟩) ∧ tm'.length = 73 ∧ tm'.getD 1 (.v undef) = .v (.int .i64 m') ∧
            tm'.getD 4 (.v undef) = .ptr H.length 0 ∧ tm'.getD 2 (.v undef) = .v (.int .i64 pb) ∧ tm'.getD 3 (.v undef) = .v (.int .i64 pc) := by
          rw [← hX]
          refine parts_names call n k f ng d e b t ns l H pb _ hnl n 0 ?mm _ ?g1 ?g2 ?g3 ?g4 ?g5 ?g6 (by omega) (by omega)
          case g4 => simp only [aops_if, aguard_tt, aguard_ff, aguard_tf, aguard_ft, aguard_un, gslot, gval_some, aop_pick, opick_true, opick_false, List.getElem?_toArray, List.getElem?_cons_succ, List.getElem?_cons_zero, Option.bind_some, goInt, conv, convA, conv1, List.toList_toArray, Option.get!_some, ne_eq, not_false_eq_true, decide_false, decide_true, Nat.reduceEqDiff, Nat.reduceLT, Option.map_some, List.map_cons, List.map_nil, aops_nil, aops_plain, astep_val, astep_skip, astep_pan, putA_some, putA_none, aval_tmp, aval_const, aval_func, abind_normal, abind_exit, abind_ret, abind_pan, acode_seq, acode_region, acode_skip, acode_exit, acode_ret, acode_block, ablock_normal, ablock_ret, ablock_self, aop_move, aop_assign, aop_box, obox_some, aop_fieldAddr, aop_load, oload_ep, aop_store, aop_bin, obin_lss, obin_add, aop_call, aop_len, aop_max, omax_int, List.length_set, getD_set_self, getD_set_ne, htm]; rfl
          case g1 => simp only [aops_if, aguard_tt, aguard_ff, aguard_tf, aguard_ft, aguard_un, gslot, gval_some, aop_pick, opick_true, opick_false, List.getElem?_toArray, List.getElem?_cons_succ, List.getElem?_cons_zero, Option.bind_some, goInt, conv, convA, conv1, List.toList_toArray, Option.get!_some, ne_eq, not_false_eq_true, decide_false, decide_true, Nat.reduceEqDiff, Nat.reduceLT, Option.map_some, List.map_cons, List.map_nil, aops_nil, aops_plain, astep_val, astep_skip, astep_pan, putA_some, putA_none, aval_tmp, aval_const, aval_func, abind_normal, abind_exit, abind_ret, abind_pan, acode_seq, acode_region, acode_skip, acode_exit, acode_ret, acode_block, ablock_normal, ablock_ret, ablock_self, aop_move, aop_assign, aop_box, obox_some, aop_fieldAddr, aop_load, oload_ep, aop_store, aop_bin, obin_lss, obin_add, aop_call, aop_len, aop_max, omax_int, List.length_set, getD_set_self, getD_set_ne, htm]
          case g2 => simp only [aops_if, aguard_tt, aguard_ff, aguard_tf, aguard_ft, aguard_un, gslot, gval_some, aop_pick, opick_true, opick_false, List.getElem?_toArray, List.getElem?_cons_succ, List.getElem?_cons_zero, Option.bind_some, goInt, conv, convA, conv1, List.toList_toArray, Option.get!_some, ne_eq, not_false_eq_true, decide_false, decide_true, Nat.reduceEqDiff, Nat.reduceLT, Option.map_some, List.map_cons, List.map_nil, aops_nil, aops_plain, astep_val, astep_skip, astep_pan, putA_some, putA_none, aval_tmp, aval_const, aval_func, abind_normal, abind_exit, abind_ret, abind_pan, acode_seq, acode_region, acode_skip, acode_exit, acode_ret, acode_block, ablock_normal, ablock_ret, ablock_self, aop_move, aop_assign, aop_box, obox_some, aop_fieldAddr, aop_load, oload_ep, aop_store, aop_bin, obin_lss, obin_add, aop_call, aop_len, aop_max, omax_int, List.length_set, getD_set_self, getD_set_ne, htm]
          case g3 => simp only [aops_if, aguard_tt, aguard_ff, aguard_tf, aguard_ft, aguard_un, gslot, gval_some, aop_pick, opick_true, opick_false, List.getElem?_toArray, List.getElem?_cons_succ, List.getElem?_cons_zero, Option.bind_some, goInt, conv, convA, conv1, List.toList_toArray, Option.get!_some, ne_eq, not_false_eq_true, decide_false, decide_true, Nat.reduceEqDiff, Nat.reduceLT, Option.map_some, List.map_cons, List.map_nil, aops_nil, aops_plain, astep_val, astep_skip, astep_pan, putA_some, putA_none, aval_tmp, aval_const, aval_func, abind_normal, abind_exit, abind_ret, abind_pan, acode_seq, acode_region, acode_skip, acode_exit, acode_ret, acode_block, ablock_normal, ablock_ret, ablock_self, aop_move, aop_assign, aop_box, obox_some, aop_fieldAddr, aop_load, oload_ep, aop_store, aop_bin, obin_lss, obin_add, aop_call, aop_len, aop_max, omax_int, List.length_set, getD_set_self, getD_set_ne, htm]; rfl
          case g5 => simp only [aops_if, aguard_tt, aguard_ff, aguard_tf, aguard_ft, aguard_un, gslot, gval_some, aop_pick, opick_true, opick_false, List.getElem?_toArray, List.getElem?_cons_succ, List.getElem?_cons_zero, Option.bind_some, goInt, conv, convA, conv1, List.toList_toArray, Option.get!_some, ne_eq, not_false_eq_true, decide_false, decide_true, Nat.reduceEqDiff, Nat.reduceLT, Option.map_some, List.map_cons, List.map_nil, aops_nil, aops_plain, astep_val, astep_skip, astep_pan, putA_some, putA_none, aval_tmp, aval_const, aval_func, abind_normal, abind_exit, abind_ret, abind_pan, acode_seq, acode_region, acode_skip, acode_exit, acode_ret, acode_block, ablock_normal, ablock_ret, ablock_self, aop_move, aop_assign, aop_box, obox_some, aop_fieldAddr, aop_load, oload_ep, aop_store, aop_bin, obin_lss, obin_add, aop_call, aop_len, aop_max, omax_int, List.length_set, getD_set_self, getD_set_ne, htm, h2]
          case g6 => simp only [aops_if, aguard_tt, aguard_ff, aguard_tf, aguard_ft, aguard_un, gslot, gval_some, aop_pick, opick_true, opick_false, List.getElem?_toArray, List.getElem?_cons_succ, List.getElem?_cons_zero, Option.bind_some, goInt, conv, convA, conv1, List.toList_toArray, Option.get!_some, ne_eq, not_false_eq_true, decide_false, decide_true, Nat.reduceEqDiff, Nat.reduceLT, Option.map_some, List.map_cons, List.map_nil, aops_nil, aops_plain, astep_val, astep_skip, astep_pan, putA_some, putA_none, aval_tmp, aval_const, aval_func, abind_normal, abind_exit, abind_ret, abind_pan, acode_seq, acode_region, acode_skip, acode_exit, acode_ret, acode_block, ablock_normal, ablock_ret, ablock_self, aop_move, aop_assign, aop_box, obox_some, aop_fieldAddr, aop_load, oload_ep, aop_store, aop_bin, obin_lss, obin_add, aop_call, aop_len, aop_max, omax_int, List.length_set, getD_set_self, getD_set_ne, htm, h3]
        obtain ⟨tm1, m1, rfl, e1, e2, e3, e4, e5⟩ := hX2
        simp only [aops_if, aguard_tt, aguard_ff, aguard_tf, aguard_ft, aguard_un, gslot, gval_some, aop_pick, opick_true, opick_false, List.getElem?_toArray, List.getElem?_cons_succ, List.getElem?_cons_zero, Option.bind_some, goInt, conv, convA, conv1, List.toList_toArray, Option.get!_some, ne_eq, not_false_eq_true, decide_false, decide_true, Nat.reduceEqDiff, Nat.reduceLT, Option.map_some, List.map_cons, List.map_nil, aops_nil, aops_plain, astep_val, astep_skip, astep_pan, putA_some, putA_none, aval_tmp, aval_const, aval_func, abind_normal, abind_exit, abind_ret, abind_pan, acode_seq, acode_region, acode_skip, acode_exit, acode_ret, acode_block, ablock_normal, ablock_ret, ablock_self, aop_move, aop_assign, aop_box, obox_some, aop_fieldAddr, aop_load, oload_ep, aop_store, aop_bin, obin_lss, obin_add, aop_call, aop_len, aop_max, omax_int, List.length_set, getD_set_self, getD_set_ne, e1] at hq
        generalize hX : acode E call n (Code.loop _) _ = X at hq
        rw [acode_loop] at hX
        have hX2 : ∃ (tm' : List AV) (m' : Int), X = some (.exit 2, ⟨tm', [], H ++ [.box 29 (VT.enc (.mk k f ng d e b t ns l))]⟩) ∧ tm'.length = 73 ∧ tm'.getD 1 (.v undef) = .v (.int .i64 m') := by
          rw [← hX]
          refine parts_list call n k f ng d e b t ns l H pb pc hc hok hl n 0 m1 _ ?_ ?_ ?_ ?_ ?_ ?_ (by omega) (by omega)
          · simp only [aops_if, aguard_tt, aguard_ff, aguard_tf, aguard_ft, aguard_un, gslot, gval_some, aop_pick, opick_true, opick_false, List.getElem?_toArray, List.getElem?_cons_succ, List.getElem?_cons_zero, Option.bind_some, goInt, conv, convA, conv1, List.toList_toArray, Option.get!_some, ne_eq, not_false_eq_true, decide_false, decide_true, Nat.reduceEqDiff, Nat.reduceLT, Option.map_some, List.map_cons, List.map_nil, aops_nil, aops_plain, astep_val, astep_skip, astep_pan, putA_some, putA_none, aval_tmp, aval_const, aval_func, abind_normal, abind_exit, abind_ret, abind_pan, acode_seq, acode_region, acode_skip, acode_exit, acode_ret, acode_block, ablock_normal, ablock_ret, ablock_self, aop_move, aop_assign, aop_box, obox_some, aop_fieldAddr, aop_load, oload_ep, aop_store, aop_bin, obin_lss, obin_add, aop_call, aop_len, aop_max, omax_int, List.length_set, getD_set_self, getD_set_ne, e1]
          · simp only [aops_if, aguard_tt, aguard_ff, aguard_tf, aguard_ft, aguard_un, gslot, gval_some, aop_pick, opick_true, opick_false, List.getElem?_toArray, List.getElem?_cons_succ, List.getElem?_cons_zero, Option.bind_some, goInt, conv, convA, conv1, List.toList_toArray, Option.get!_some, ne_eq, not_false_eq_true, decide_false, decide_true, Nat.reduceEqDiff, Nat.reduceLT, Option.map_some, List.map_cons, List.map_nil, aops_nil, aops_plain, astep_val, astep_skip, astep_pan, putA_some, putA_none, aval_tmp, aval_const, aval_func, abind_normal, abind_exit, abind_ret, abind_pan, acode_seq, acode_region, acode_skip, acode_exit, acode_ret, acode_block, ablock_normal, ablock_ret, ablock_self, aop_move, aop_assign, aop_box, obox_some, aop_fieldAddr, aop_load, oload_ep, aop_store, aop_bin, obin_lss, obin_add, aop_call, aop_len, aop_max, omax_int, List.length_set, getD_set_self, getD_set_ne, e1, e3]
          · simp only [aops_if, aguard_tt, aguard_ff, aguard_tf, aguard_ft, aguard_un, gslot, gval_some, aop_pick, opick_true, opick_false, List.getElem?_toArray, List.getElem?_cons_succ, List.getElem?_cons_zero, Option.bind_some, goInt, conv, convA, conv1, List.toList_toArray, Option.get!_some, ne_eq, not_false_eq_true, decide_false, decide_true, Nat.reduceEqDiff, Nat.reduceLT, Option.map_some, List.map_cons, List.map_nil, aops_nil, aops_plain, astep_val, astep_skip, astep_pan, putA_some, putA_none, aval_tmp, aval_const, aval_func, abind_normal, abind_exit, abind_ret, abind_pan, acode_seq, acode_region, acode_skip, acode_exit, acode_ret, acode_block, ablock_normal, ablock_ret, ablock_self, aop_move, aop_assign, aop_box, obox_some, aop_fieldAddr, aop_load, oload_ep, aop_store, aop_bin, obin_lss, obin_add, aop_call, aop_len, aop_max, omax_int, List.length_set, getD_set_self, getD_set_ne, e1]; rfl
          · simp only [aops_if, aguard_tt, aguard_ff, aguard_tf, aguard_ft, aguard_un, gslot, gval_some, aop_pick, opick_true, opick_false, List.getElem?_toArray, List.getElem?_cons_succ, List.getElem?_cons_zero, Option.bind_some, goInt, conv, convA, conv1, List.toList_toArray, Option.get!_some, ne_eq, not_false_eq_true, decide_false, decide_true, Nat.reduceEqDiff, Nat.reduceLT, Option.map_some, List.map_cons, List.map_nil, aops_nil, aops_plain, astep_val, astep_skip, astep_pan, putA_some, putA_none, aval_tmp, aval_const, aval_func, abind_normal, abind_exit, abind_ret, abind_pan, acode_seq, acode_region, acode_skip, acode_exit, acode_ret, acode_block, ablock_normal, ablock_ret, ablock_self, aop_move, aop_assign, aop_box, obox_some, aop_fieldAddr, aop_load, oload_ep, aop_store, aop_bin, obin_lss, obin_add, aop_call, aop_len, aop_max, omax_int, List.length_set, getD_set_self, getD_set_ne, e1, e2]
          · simp only [aops_if, aguard_tt, aguard_ff, aguard_tf, aguard_ft, aguard_un, gslot, gval_some, aop_pick, opick_true, opick_false, List.getElem?_toArray, List.getElem?_cons_succ, List.getElem?_cons_zero, Option.bind_some, goInt, conv, convA, conv1, List.toList_toArray, Option.get!_some, ne_eq, not_false_eq_true, decide_false, decide_true, Nat.reduceEqDiff, Nat.reduceLT, Option.map_some, List.map_cons, List.map_nil, aops_nil, aops_plain, astep_val, astep_skip, astep_pan, putA_some, putA_none, aval_tmp, aval_const, aval_func, abind_normal, abind_exit, abind_ret, abind_pan, acode_seq, acode_region, acode_skip, acode_exit, acode_ret, acode_block, ablock_normal, ablock_ret, ablock_self, aop_move, aop_assign, aop_box, obox_some, aop_fieldAddr, aop_load, oload_ep, aop_store, aop_bin, obin_lss, obin_add, aop_call, aop_len, aop_max, omax_int, List.length_set, getD_set_self, getD_set_ne, e1, e4]
          · simp only [aops_if, aguard_tt, aguard_ff, aguard_tf, aguard_ft, aguard_un, gslot, gval_some, aop_pick, opick_true, opick_false, List.getElem?_toArray, List.getElem?_cons_succ, List.getElem?_cons_zero, Option.bind_some, goInt, conv, convA, conv1, List.toList_toArray, Option.get!_some, ne_eq, not_false_eq_true, decide_false, decide_true, Nat.reduceEqDiff, Nat.reduceLT, Option.map_some, List.map_cons, List.map_nil, aops_nil, aops_plain, astep_val, astep_skip, astep_pan, putA_some, putA_none, aval_tmp, aval_const, aval_func, abind_normal, abind_exit, abind_ret, abind_pan, acode_seq, acode_region, acode_skip, acode_exit, acode_ret, acode_block, ablock_normal, ablock_ret, ablock_self, aop_move, aop_assign, aop_box, obox_some, aop_fieldAddr, aop_load, oload_ep, aop_store, aop_bin, obin_lss, obin_add, aop_call, aop_len, aop_max, omax_int, List.length_set, getD_set_self, getD_set_ne, e1, e5]
        obtain ⟨tm2, m2, rfl, u1, u2⟩ := hX2
        simp only [aops_if, aguard_tt, aguard_ff, aguard_tf, aguard_ft, aguard_un, gslot, gval_some, aop_pick, opick_true, opick_false, List.getElem?_toArray, List.getElem?_cons_succ, List.getElem?_cons_zero, Option.bind_some, goInt, conv, convA, conv1, List.toList_toArray, Option.get!_some, ne_eq, not_false_eq_true, decide_false, decide_true, Nat.reduceEqDiff, Nat.reduceLT, Option.map_some, List.map_cons, List.map_nil, aops_nil, aops_plain, astep_val, astep_skip, astep_pan, putA_some, putA_none, aval_tmp, aval_const, aval_func, abind_normal, abind_exit, abind_ret, abind_pan, acode_seq, acode_region, acode_skip, acode_exit, acode_ret, acode_block, ablock_normal, ablock_ret, ablock_self, aop_move, aop_assign, aop_box, obox_some, aop_fieldAddr, aop_load, oload_ep, aop_store, aop_bin, obin_lss, obin_add, aop_call, aop_len, aop_max, omax_int, List.length_set, getD_set_self, getD_set_ne, u1, u2] at hq
        subst hq
        exact ⟨_, _, _, rfl, by simp only [aops_if, aguard_tt, aguard_ff, aguard_tf, aguard_ft, aguard_un, gslot, gval_some, aop_pick, opick_true, opick_false, List.getElem?_toArray, List.getElem?_cons_succ, List.getElem?_cons_zero, Option.bind_some, goInt, conv, convA, conv1, List.toList_toArray, Option.get!_some, ne_eq, not_false_eq_true, decide_false, decide_true, Nat.reduceEqDiff, Nat.reduceLT, Option.map_some, List.map_cons, List.map_nil, aops_nil, aops_plain, astep_val, astep_skip, astep_pan, putA_some, putA_none, aval_tmp, aval_const, aval_func, abind_normal, abind_exit, abind_ret, abind_pan, acode_seq, acode_region, acode_skip, acode_exit, acode_ret, acode_block, ablock_normal, ablock_ret, ablock_self, aop_move, aop_assign, aop_box, obox_some, aop_fieldAddr, aop_load, oload_ep, aop_store, aop_bin, obin_lss, obin_add, aop_call, aop_len, aop_max, omax_int, List.length_set, getD_set_self, getD_set_ne, u1]; rfl⟩
    exact ⟨r, by rw [acall_ret1 ho code19 (t := 8) rfl (by rw [hcall]; exact hx), ht, gc_all hH rfl]⟩

theorem code9 : E.code 9 = some (Tryz.f9, (Tryz.f9.body).get!) := by kernel_rfl

theorem big_ok (orc : Orc) (h9 : orc 9 = none) (h19 : orc 19 = none) (h20 : orc 20 = none) (v : VT) (hv : v.need < 2 ^ 40) (n : Nat) (hn : v.need < n) (H : Heap) (hH : OkH H) :
    ∃ r : Bool, acall E orc n 9 [.agg v.enc] H = some (.ret (.v (.bool r)), H) := by
  obtain ⟨n, rfl⟩ : ∃ m, n = m + 1 := ⟨n - 1, by omega⟩
  have hok := okH_box (t := 29) hH (enc_under v)
  obtain ⟨p, hp⟩ := parts_ok orc h19 v hv n (by omega) _ hok 0 65536 0
  have hm := many_ok orc h20 v hv n (by omega) _ hok
  generalize hcall : acall E orc n = call at hp hm
  obtain ⟨tm, ext, r, hx, ht⟩ : ∃ tm ext r, acode E call n (Tryz.f9.body.get!) (aframe E Tryz.f9 [.agg v.enc] H) = some (.ret, ⟨tm, [], H ++ ext⟩) ∧ tm.getD 2 (.v undef) = .v (.bool r) := by
    obtain ⟨tm0, htm, h0, hfr⟩ : ∃ tm0 : List AV, tm0.length = 10 ∧ tm0.getD 0 (.v undef) = .agg v.enc ∧ aframe E Tryz.f9 [.agg v.enc] H = ⟨tm0, [], H⟩ := ⟨_, rfl, rfl, rfl⟩
    rw [hfr]
    generalize hq : acode E call n (Tryz.f9.body.get!) ⟨tm0, [], H⟩ = q
    simp [Tryz.f9] at hq
    by_cases hw : p > 65536
    · simp only [aops_if, aguard_tt, aguard_ff, aguard_tf, aguard_ft, aguard_un, gslot, gval_some, aop_pick, opick_true, opick_false, List.getElem?_toArray, List.getElem?_cons_succ, List.getElem?_cons_zero, Option.bind_some, goInt, conv, convA, conv1, List.toList_toArray, Option.get!_some, ne_eq, not_false_eq_true, decide_false, decide_true, Nat.reduceEqDiff, Nat.reduceLT, Option.map_some, List.map_cons, List.map_nil, aops_nil, aops_plain, astep_val, astep_skip, astep_pan, putA_some, putA_none, aval_tmp, aval_const, aval_func, abind_normal, abind_exit, abind_ret, abind_pan, acode_seq, acode_region, acode_skip, acode_exit, acode_ret, acode_block, ablock_normal, ablock_ret, ablock_self, aop_move, aop_assign, aop_box, obox_some, aop_fieldAddr, aop_load, oload_ep, aop_store, aop_bin, obin_lss, obin_add, aop_call, aop_len, aop_max, omax_int, List.length_set, getD_set_self, getD_set_ne, htm, h0, AV.cells?, load29_new, ocall_fn code19, astep_enter hp, obin_gtr, hw] at hq
      subst hq
      exact ⟨_, _, _, rfl, by simp only [aops_if, aguard_tt, aguard_ff, aguard_tf, aguard_ft, aguard_un, gslot, gval_some, aop_pick, opick_true, opick_false, List.getElem?_toArray, List.getElem?_cons_succ, List.getElem?_cons_zero, Option.bind_some, goInt, conv, convA, conv1, List.toList_toArray, Option.get!_some, ne_eq, not_false_eq_true, decide_false, decide_true, Nat.reduceEqDiff, Nat.reduceLT, Option.map_some, List.map_cons, List.map_nil, aops_nil, aops_plain, astep_val, astep_skip, astep_pan, putA_some, putA_none, aval_tmp, aval_const, aval_func, abind_normal, abind_exit, abind_ret, abind_pan, acode_seq, acode_region, acode_skip, acode_exit, acode_ret, acode_block, ablock_normal, ablock_ret, ablock_self, aop_move, aop_assign, aop_box, obox_some, aop_fieldAddr, aop_load, oload_ep, aop_store, aop_bin, obin_lss, obin_add, aop_call, aop_len, aop_max, omax_int, List.length_set, getD_set_self, getD_set_ne, htm]; rfl⟩
    · simp only [aops_if, aguard_tt, aguard_ff, aguard_tf, aguard_ft, aguard_un, gslot, gval_some, aop_pick, opick_true, opick_false, List.getElem?_toArray, List.getElem?_cons_succ, List.getElem?_cons_zero, Option.bind_some, goInt, conv, convA, conv1, List.toList_toArray, Option.get!_some, ne_eq, not_false_eq_true, decide_false, decide_true, Nat.reduceEqDiff, Nat.reduceLT, Option.map_some, List.map_cons, List.map_nil, aops_nil, aops_plain, astep_val, astep_skip, astep_pan, putA_some, putA_none, aval_tmp, aval_const, aval_func, abind_normal, abind_exit, abind_ret, abind_pan, acode_seq, acode_region, acode_skip, acode_exit, acode_ret, acode_block, ablock_normal, ablock_ret, ablock_self, aop_move, aop_assign, aop_box, obox_some, aop_fieldAddr, aop_load, oload_ep, aop_store, aop_bin, obin_lss, obin_add, aop_call, aop_len, aop_max, omax_int, List.length_set, getD_set_self, getD_set_ne, htm, h0, AV.cells?, load29_new, ocall_fn code19, astep_enter hp, obin_gtr, hw, ocall_fn code20, astep_enter hm] at hq
      subst hq
      exact ⟨_, _, _, rfl, by simp only [aops_if, aguard_tt, aguard_ff, aguard_tf, aguard_ft, aguard_un, gslot, gval_some, aop_pick, opick_true, opick_false, List.getElem?_toArray, List.getElem?_cons_succ, List.getElem?_cons_zero, Option.bind_some, goInt, conv, convA, conv1, List.toList_toArray, Option.get!_some, ne_eq, not_false_eq_true, decide_false, decide_true, Nat.reduceEqDiff, Nat.reduceLT, Option.map_some, List.map_cons, List.map_nil, aops_nil, aops_plain, astep_val, astep_skip, astep_pan, putA_some, putA_none, aval_tmp, aval_const, aval_func, abind_normal, abind_exit, abind_ret, abind_pan, acode_seq, acode_region, acode_skip, acode_exit, acode_ret, acode_block, ablock_normal, ablock_ret, ablock_self, aop_move, aop_assign, aop_box, obox_some, aop_fieldAddr, aop_load, oload_ep, aop_store, aop_bin, obin_lss, obin_add, aop_call, aop_len, aop_max, omax_int, List.length_set, getD_set_self, getD_set_ne, htm]; rfl⟩
  exact ⟨r, by rw [acall_ret1 h9 code9 (t := 2) rfl (by rw [hcall]; exact hx), ht, gc_all hH rfl]⟩

end Go.AI.Jx
end
section
set_option linter.all false
namespace Go.AI.Jx
open Go Go.Proofs

theorem code109 : E.code 109 = some (Tryz.f109, (Tryz.f109.body).get!) := by kernel_rfl
theorem code69 : E.code 69 = some (Tryz.f69, (Tryz.f69.body).get!) := by kernel_rfl
noncomputable def body109 : Code := sub [1, 0, 1, 0, 0] ((Tryz.f109.body).get!)

theorem index109_loop (call : CallFn) (n g : Nat) (cg : Func × Code) (hg : E.code g = some cg) (p : VT → Bool) (l : List VT) (H : Heap) (hcall : ∀ x ∈ l, call g [.agg x.enc] H = some (.ret (.v (.bool (p x))), H)) (hl : l.length < 2 ^ 40) : ∀ (q i : Nat) (tm : List AV), tm.length = 19 →
    tm.getD 0 (.v undef) = .sl l.length (VT.encL l) → tm.getD 1 (.v undef) = .fn (.func g) [] [] → tm.getD 7 (.v undef) = .v (.int .i64 l.length) → tm.getD 8 (.v undef) = .v (.int .i64 i) → l.length - i < q → i ≤ l.length →
    ∃ (tm' : List AV), tm'.length = 19 ∧ ((∃ j : Nat, (l.drop i).any p = true ∧ tm'.getD 4 (.v undef) = .v (.int .i64 j) ∧ aloop (acode E call n body109) q ⟨tm, [], H⟩ = some (.ret, ⟨tm', [], H⟩)) ∨
      ((l.drop i).any p = false ∧ aloop (acode E call n body109) q ⟨tm, [], H⟩ = some (.exit 0, ⟨tm', [], H⟩)))
  | 0, i, tm, _, _, _, _, _, h, _ => by omega
  | q + 1, i, tm, htm, h0, h1, h7, h8, hk, hi => by
    rw [aloop_succ]
    generalize hq : acode E call n body109 ⟨tm, [], H⟩ = r
    simp [body109, sub, Tryz.f109] at hq
    by_cases hlt : i < l.length
    · obtain ⟨x, hx⟩ : ∃ x, l[i]? = some x := ⟨l[i], List.getElem?_eq_getElem hlt⟩
      obtain ⟨hi', hxe⟩ := List.getElem?_eq_some_iff.1 hx
      have hmx : (l.drop i).any p = (p x || (l.drop (i + 1)).any p) := by rw [List.drop_eq_getElem_cons hi', hxe]; rfl
      have hw : IntKind.i64.wrap ((i : Int) + 1) = ((i + 1 : Nat) : Int) := by rw [i64_wrap (by omega) (by omega)]; omega
      have hcx := hcall x (List.mem_of_getElem? hx)
      cases hp : p x with
      | true =>
        rw [hp] at hcx
        simp only [aop_un, oun_not, aops_if, aguard_tt, aguard_ff, aguard_tf, aguard_ft, aguard_un, gslot, gval_some, aop_pick, opick_true, opick_false, List.getElem?_toArray, List.getElem?_cons_succ, List.getElem?_cons_zero, Option.bind_some, goInt, conv, convA, conv1, List.toList_toArray, Option.get!_some, ne_eq, not_false_eq_true, decide_false, decide_true, Nat.reduceEqDiff, Nat.reduceLT, Option.map_some, List.map_cons, List.map_nil, aops_nil, aops_plain, astep_val, astep_skip, astep_pan, putA_some, putA_none, aval_tmp, aval_const, aval_func, abind_normal, abind_exit, abind_ret, abind_pan, acode_seq, acode_region, acode_skip, acode_exit, acode_ret, acode_block, ablock_normal, ablock_ret, ablock_self, aop_move, aop_assign, aop_box, obox_some, aop_fieldAddr, aop_load, oload_ep, aop_store, aop_bin, obin_lss, obin_add, aop_call, aop_len, aop_max, omax_int, List.length_set, getD_set_self, getD_set_ne, htm, h0, h1, h7, h8, Int.ofNat_lt, hlt, acode_true, acode_false, aop_index und27, idx27 hlt, load29_ep hx, ocall_fn hg, astep_enter hcx] at hq
        subst hq
        exact ⟨_, by simp only [aop_un, oun_not, aops_if, aguard_tt, aguard_ff, aguard_tf, aguard_ft, aguard_un, gslot, gval_some, aop_pick, opick_true, opick_false, List.getElem?_toArray, List.getElem?_cons_succ, List.getElem?_cons_zero, Option.bind_some, goInt, conv, convA, conv1, List.toList_toArray, Option.get!_some, ne_eq, not_false_eq_true, decide_false, decide_true, Nat.reduceEqDiff, Nat.reduceLT, Option.map_some, List.map_cons, List.map_nil, aops_nil, aops_plain, astep_val, astep_skip, astep_pan, putA_some, putA_none, aval_tmp, aval_const, aval_func, abind_normal, abind_exit, abind_ret, abind_pan, acode_seq, acode_region, acode_skip, acode_exit, acode_ret, acode_block, ablock_normal, ablock_ret, ablock_self, aop_move, aop_assign, aop_box, obox_some, aop_fieldAddr, aop_load, oload_ep, aop_store, aop_bin, obin_lss, obin_add, aop_call, aop_len, aop_max, omax_int, List.length_set, getD_set_self, getD_set_ne, htm], .inl ⟨i, by rw [hmx, hp]; rfl, by simp only [aop_un, oun_not, aops_if, aguard_tt, aguard_ff, aguard_tf, aguard_ft, aguard_un, gslot, gval_some, aop_pick, opick_true, opick_false, List.getElem?_toArray, List.getElem?_cons_succ, List.getElem?_cons_zero, Option.bind_some, goInt, conv, convA, conv1, List.toList_toArray, Option.get!_some, ne_eq, not_false_eq_true, decide_false, decide_true, Nat.reduceEqDiff, Nat.reduceLT, Option.map_some, List.map_cons, List.map_nil, aops_nil, aops_plain, astep_val, astep_skip, astep_pan, putA_some, putA_none, aval_tmp, aval_const, aval_func, abind_normal, abind_exit, abind_ret, abind_pan, acode_seq, acode_region, acode_skip, acode_exit, acode_ret, acode_block, ablock_normal, ablock_ret, ablock_self, aop_move, aop_assign, aop_box, obox_some, aop_fieldAddr, aop_load, oload_ep, aop_store, aop_bin, obin_lss, obin_add, aop_call, aop_len, aop_max, omax_int, List.length_set, getD_set_self, getD_set_ne, htm], rfl⟩⟩
      | false =>
        rw [hp] at hcx
        simp only [aop_un, oun_not, aops_if, aguard_tt, aguard_ff, aguard_tf, aguard_ft, aguard_un, gslot, gval_some, aop_pick, opick_true, opick_false, List.getElem?_toArray, List.getElem?_cons_succ, List.getElem?_cons_zero, Option.bind_some, goInt, conv, convA, conv1, List.toList_toArray, Option.get!_some, ne_eq, not_false_eq_true, decide_false, decide_true, Nat.reduceEqDiff, Nat.reduceLT, Option.map_some, List.map_cons, List.map_nil, aops_nil, aops_plain, astep_val, astep_skip, astep_pan, putA_some, putA_none, aval_tmp, aval_const, aval_func, abind_normal, abind_exit, abind_ret, abind_pan, acode_seq, acode_region, acode_skip, acode_exit, acode_ret, acode_block, ablock_normal, ablock_ret, ablock_self, aop_move, aop_assign, aop_box, obox_some, aop_fieldAddr, aop_load, oload_ep, aop_store, aop_bin, obin_lss, obin_add, aop_call, aop_len, aop_max, omax_int, List.length_set, getD_set_self, getD_set_ne, htm, h0, h1, h7, h8, Int.ofNat_lt, hlt, acode_true, acode_false, aop_index und27, idx27 hlt, load29_ep hx, ocall_fn hg, astep_enter hcx, hw] at hq
        subst hq
        rw [abind_normal, hmx, hp, Bool.false_or]
        refine index109_loop call n g cg hg p l H hcall hl q (i + 1) _ ?_ ?_ ?_ ?_ ?_ (by omega) (by omega)
        · simp only [aop_un, oun_not, aops_if, aguard_tt, aguard_ff, aguard_tf, aguard_ft, aguard_un, gslot, gval_some, aop_pick, opick_true, opick_false, List.getElem?_toArray, List.getElem?_cons_succ, List.getElem?_cons_zero, Option.bind_some, goInt, conv, convA, conv1, List.toList_toArray, Option.get!_some, ne_eq, not_false_eq_true, decide_false, decide_true, Nat.reduceEqDiff, Nat.reduceLT, Option.map_some, List.map_cons, List.map_nil, aops_nil, aops_plain, astep_val, astep_skip, astep_pan, putA_some, putA_none, aval_tmp, aval_const, aval_func, abind_normal, abind_exit, abind_ret, abind_pan, acode_seq, acode_region, acode_skip, acode_exit, acode_ret, acode_block, ablock_normal, ablock_ret, ablock_self, aop_move, aop_assign, aop_box, obox_some, aop_fieldAddr, aop_load, oload_ep, aop_store, aop_bin, obin_lss, obin_add, aop_call, aop_len, aop_max, omax_int, List.length_set, getD_set_self, getD_set_ne, htm]
        · simp only [aop_un, oun_not, aops_if, aguard_tt, aguard_ff, aguard_tf, aguard_ft, aguard_un, gslot, gval_some, aop_pick, opick_true, opick_false, List.getElem?_toArray, List.getElem?_cons_succ, List.getElem?_cons_zero, Option.bind_some, goInt, conv, convA, conv1, List.toList_toArray, Option.get!_some, ne_eq, not_false_eq_true, decide_false, decide_true, Nat.reduceEqDiff, Nat.reduceLT, Option.map_some, List.map_cons, List.map_nil, aops_nil, aops_plain, astep_val, astep_skip, astep_pan, putA_some, putA_none, aval_tmp, aval_const, aval_func, abind_normal, abind_exit, abind_ret, abind_pan, acode_seq, acode_region, acode_skip, acode_exit, acode_ret, acode_block, ablock_normal, ablock_ret, ablock_self, aop_move, aop_assign, aop_box, obox_some, aop_fieldAddr, aop_load, oload_ep, aop_store, aop_bin, obin_lss, obin_add, aop_call, aop_len, aop_max, omax_int, List.length_set, getD_set_self, getD_set_ne, htm, h0]
        · simp only [aop_un, oun_not, aops_if, aguard_tt, aguard_ff, aguard_tf, aguard_ft, aguard_un, gslot, gval_some, aop_pick, opick_true, opick_false, List.getElem?_toArray, List.getElem?_cons_succ, List.getElem?_cons_zero, Option.bind_some, goInt, conv, convA, conv1, List.toList_toArray, Option.get!_some, ne_eq, not_false_eq_true, decide_false, decide_true, Nat.reduceEqDiff, Nat.reduceLT, Option.map_some, List.map_cons, List.map_nil, aops_nil, aops_plain, astep_val, astep_skip, astep_pan, putA_some, putA_none, aval_tmp, aval_const, aval_func, abind_normal, abind_exit, abind_ret, abind_pan, acode_seq, acode_region, acode_skip, acode_exit, acode_ret, acode_block, ablock_normal, ablock_ret, ablock_self, aop_move, aop_assign, aop_box, obox_some, aop_fieldAddr, aop_load, oload_ep, aop_store, aop_bin, obin_lss, obin_add, aop_call, aop_len, aop_max, omax_int, List.length_set, getD_set_self, getD_set_ne, htm, h1]
        · simp only [aop_un, oun_not, aops_if, aguard_tt, aguard_ff, aguard_tf, aguard_ft, aguard_un, gslot, gval_some, aop_pick, opick_true, opick_false, List.getElem?_toArray, List.getElem?_cons_succ, List.getElem?_cons_zero, Option.bind_some, goInt, conv, convA, conv1, List.toList_toArray, Option.get!_some, ne_eq, not_false_eq_true, decide_false, decide_true, Nat.reduceEqDiff, Nat.reduceLT, Option.map_some, List.map_cons, List.map_nil, aops_nil, aops_plain, astep_val, astep_skip, astep_pan, putA_some, putA_none, aval_tmp, aval_const, aval_func, abind_normal, abind_exit, abind_ret, abind_pan, acode_seq, acode_region, acode_skip, acode_exit, acode_ret, acode_block, ablock_normal, ablock_ret, ablock_self, aop_move, aop_assign, aop_box, obox_some, aop_fieldAddr, aop_load, oload_ep, aop_store, aop_bin, obin_lss, obin_add, aop_call, aop_len, aop_max, omax_int, List.length_set, getD_set_self, getD_set_ne, htm, h7]
        · simp only [aop_un, oun_not, aops_if, aguard_tt, aguard_ff, aguard_tf, aguard_ft, aguard_un, gslot, gval_some, aop_pick, opick_true, opick_false, List.getElem?_toArray, List.getElem?_cons_succ, List.getElem?_cons_zero, Option.bind_some, goInt, conv, convA, conv1, List.toList_toArray, Option.get!_some, ne_eq, not_false_eq_true, decide_false, decide_true, Nat.reduceEqDiff, Nat.reduceLT, Option.map_some, List.map_cons, List.map_nil, aops_nil, aops_plain, astep_val, astep_skip, astep_pan, putA_some, putA_none, aval_tmp, aval_const, aval_func, abind_normal, abind_exit, abind_ret, abind_pan, acode_seq, acode_region, acode_skip, acode_exit, acode_ret, acode_block, ablock_normal, ablock_ret, ablock_self, aop_move, aop_assign, aop_box, obox_some, aop_fieldAddr, aop_load, oload_ep, aop_store, aop_bin, obin_lss, obin_add, aop_call, aop_len, aop_max, omax_int, List.length_set, getD_set_self, getD_set_ne, htm]
    · have : i = l.length := by omega
      subst this
      simp only [aop_un, oun_not, aops_if, aguard_tt, aguard_ff, aguard_tf, aguard_ft, aguard_un, gslot, gval_some, aop_pick, opick_true, opick_false, List.getElem?_toArray, List.getElem?_cons_succ, List.getElem?_cons_zero, Option.bind_some, goInt, conv, convA, conv1, List.toList_toArray, Option.get!_some, ne_eq, not_false_eq_true, decide_false, decide_true, Nat.reduceEqDiff, Nat.reduceLT, Option.map_some, List.map_cons, List.map_nil, aops_nil, aops_plain, astep_val, astep_skip, astep_pan, putA_some, putA_none, aval_tmp, aval_const, aval_func, abind_normal, abind_exit, abind_ret, abind_pan, acode_seq, acode_region, acode_skip, acode_exit, acode_ret, acode_block, ablock_normal, ablock_ret, ablock_self, aop_move, aop_assign, aop_box, obox_some, aop_fieldAddr, aop_load, oload_ep, aop_store, aop_bin, obin_lss, obin_add, aop_call, aop_len, aop_max, omax_int, List.length_set, getD_set_self, getD_set_ne, htm, h0, h1, h7, h8, Int.lt_irrefl, acode_true, acode_false] at hq
      subst hq
      exact ⟨_, by simp only [aop_un, oun_not, aops_if, aguard_tt, aguard_ff, aguard_tf, aguard_ft, aguard_un, gslot, gval_some, aop_pick, opick_true, opick_false, List.getElem?_toArray, List.getElem?_cons_succ, List.getElem?_cons_zero, Option.bind_some, goInt, conv, convA, conv1, List.toList_toArray, Option.get!_some, ne_eq, not_false_eq_true, decide_false, decide_true, Nat.reduceEqDiff, Nat.reduceLT, Option.map_some, List.map_cons, List.map_nil, aops_nil, aops_plain, astep_val, astep_skip, astep_pan, putA_some, putA_none, aval_tmp, aval_const, aval_func, abind_normal, abind_exit, abind_ret, abind_pan, acode_seq, acode_region, acode_skip, acode_exit, acode_ret, acode_block, ablock_normal, ablock_ret, ablock_self, aop_move, aop_assign, aop_box, obox_some, aop_fieldAddr, aop_load, oload_ep, aop_store, aop_bin, obin_lss, obin_add, aop_call, aop_len, aop_max, omax_int, List.length_set, getD_set_self, getD_set_ne, htm], .inr ⟨by rw [List.drop_length]; rfl, rfl⟩⟩

theorem contains69 (orc : Orc) (h69 : orc 69 = none) (h109 : orc 109 = none) (g : Nat) (cg : Func × Code) (hg : E.code g = some cg) (p : VT → Bool) (l : List VT) (hl : l.length < 2 ^ 40) (n : Nat) (hn : l.length < n) (H : Heap) (hH : OkH H)
    (hcall : ∀ x ∈ l, acall E orc n g [.agg x.enc] H = some (.ret (.v (.bool (p x))), H)) : acall E orc (n + 2) 69 [.sl l.length (VT.encL l), .fn (.func g) [] []] H = some (.ret (.v (.bool (l.any p))), H) := by
  have h1 : ∃ r : Int, decide (r ≥ 0) = l.any p ∧ acall E orc (n + 1) 109 [.sl l.length (VT.encL l), .fn (.func g) [] []] H = some (.ret (.v (.int .i64 r)), H) := by
    generalize hc : acall E orc n = call at hcall
    obtain ⟨tm, r, hx, ht, hr⟩ : ∃ (tm : List AV) (r : Int), acode E call n (Tryz.f109.body.get!) (aframe E Tryz.f109 [.sl l.length (VT.encL l), .fn (.func g) [] []] H) = some (.ret, ⟨tm, [], H⟩) ∧ tm.getD 4 (.v undef) = .v (.int .i64 r) ∧ decide (r ≥ 0) = l.any p := by
      obtain ⟨tm0, htm, h0, h1, hfr⟩ : ∃ tm0 : List AV, tm0.length = 19 ∧ tm0.getD 0 (.v undef) = .sl l.length (VT.encL l) ∧ tm0.getD 1 (.v undef) = .fn (.func g) [] [] ∧ aframe E Tryz.f109 [.sl l.length (VT.encL l), .fn (.func g) [] []] H = ⟨tm0, [], H⟩ := ⟨_, rfl, rfl, rfl, rfl⟩
      rw [hfr]
      generalize hq : acode E call n (Tryz.f109.body.get!) ⟨tm0, [], H⟩ = q
      simp [Tryz.f109] at hq
      simp only [aop_un, oun_not, aops_if, aguard_tt, aguard_ff, aguard_tf, aguard_ft, aguard_un, gslot, gval_some, aop_pick, opick_true, opick_false, List.getElem?_toArray, List.getElem?_cons_succ, List.getElem?_cons_zero, Option.bind_some, goInt, conv, convA, conv1, List.toList_toArray, Option.get!_some, ne_eq, not_false_eq_true, decide_false, decide_true, Nat.reduceEqDiff, Nat.reduceLT, Option.map_some, List.map_cons, List.map_nil, aops_nil, aops_plain, astep_val, astep_skip, astep_pan, putA_some, putA_none, aval_tmp, aval_const, aval_func, abind_normal, abind_exit, abind_ret, abind_pan, acode_seq, acode_region, acode_skip, acode_exit, acode_ret, acode_block, ablock_normal, ablock_ret, ablock_self, aop_move, aop_assign, aop_box, obox_some, aop_fieldAddr, aop_load, oload_ep, aop_store, aop_bin, obin_lss, obin_add, aop_call, aop_len, aop_max, omax_int, List.length_set, getD_set_self, getD_set_ne, htm, h0, h1, olen_sl und27] at hq
      generalize hX : acode E call n (Code.loop _) _ = X at hq
      rw [acode_loop] at hX
      have hX2 : ∃ (tm' : List AV), tm'.length = 19 ∧ ((∃ j : Nat, (l.drop 0).any p = true ∧ tm'.getD 4 (.v undef) = .v (.int .i64 j) ∧ X = some (.ret, ⟨tm', [], H⟩)) ∨
          ((l.drop 0).any p = false ∧ X = some (.exit 0, ⟨tm', [], H⟩))) := by
        rw [← hX]
        refine index109_loop call n g cg hg p l H hcall hl n 0 _ ?_ ?_ ?_ ?_ ?_ (by omega) (by omega)
        · simp only [aop_un, oun_not, aops_if, aguard_tt, aguard_ff, aguard_tf, aguard_ft, aguard_un, gslot, gval_some, aop_pick, opick_true, opick_false, List.getElem?_toArray, List.getElem?_cons_succ, List.getElem?_cons_zero, Option.bind_some, goInt, conv, convA, conv1, List.toList_toArray, Option.get!_some, ne_eq, not_false_eq_true, decide_false, decide_true, Nat.reduceEqDiff, Nat.reduceLT, Option.map_some, List.map_cons, List.map_nil, aops_nil, aops_plain, astep_val, astep_skip, astep_pan, putA_some, putA_none, aval_tmp, aval_const, aval_func, abind_normal, abind_exit, abind_ret, abind_pan, acode_seq, acode_region, acode_skip, acode_exit, acode_ret, acode_block, ablock_normal, ablock_ret, ablock_self, aop_move, aop_assign, aop_box, obox_some, aop_fieldAddr, aop_load, oload_ep, aop_store, aop_bin, obin_lss, obin_add, aop_call, aop_len, aop_max, omax_int, List.length_set, getD_set_self, getD_set_ne, htm]
        · simp only [aop_un, oun_not, aops_if, aguard_tt, aguard_ff, aguard_tf, aguard_ft, aguard_un, gslot, gval_some, aop_pick, opick_true, opick_false, List.getElem?_toArray, List.getElem?_cons_succ, List.getElem?_cons_zero, Option.bind_some, goInt, conv, convA, conv1, List.toList_toArray, Option.get!_some, ne_eq, not_false_eq_true, decide_false, decide_true, Nat.reduceEqDiff, Nat.reduceLT, Option.map_some, List.map_cons, List.map_nil, aops_nil, aops_plain, astep_val, astep_skip, astep_pan, putA_some, putA_none, aval_tmp, aval_const, aval_func, abind_normal, abind_exit, abind_ret, abind_pan, acode_seq, acode_region, acode_skip, acode_exit, acode_ret, acode_block, ablock_normal, ablock_ret, ablock_self, aop_move, aop_assign, aop_box, obox_some, aop_fieldAddr, aop_load, oload_ep, aop_store, aop_bin, obin_lss, obin_add, aop_call, aop_len, aop_max, omax_int, List.length_set, getD_set_self, getD_set_ne, htm, h0]
        · simp only [aop_un, oun_not, aops_if, aguard_tt, aguard_ff, aguard_tf, aguard_ft, aguard_un, gslot, gval_some, aop_pick, opick_true, opick_false, List.getElem?_toArray, List.getElem?_cons_succ, List.getElem?_cons_zero, Option.bind_some, goInt, conv, convA, conv1, List.toList_toArray, Option.get!_some, ne_eq, not_false_eq_true, decide_false, decide_true, Nat.reduceEqDiff, Nat.reduceLT, Option.map_some, List.map_cons, List.map_nil, aops_nil, aops_plain, astep_val, astep_skip, astep_pan, putA_some, putA_none, aval_tmp, aval_const, aval_func, abind_normal, abind_exit, abind_ret, abind_pan, acode_seq, acode_region, acode_skip, acode_exit, acode_ret, acode_block, ablock_normal, ablock_ret, ablock_self, aop_move, aop_assign, aop_box, obox_some, aop_fieldAddr, aop_load, oload_ep, aop_store, aop_bin, obin_lss, obin_add, aop_call, aop_len, aop_max, omax_int, List.length_set, getD_set_self, getD_set_ne, htm, h1]
        · simp only [aop_un, oun_not, aops_if, aguard_tt, aguard_ff, aguard_tf, aguard_ft, aguard_un, gslot, gval_some, aop_pick, opick_true, opick_false, List.getElem?_toArray, List.getElem?_cons_succ, List.getElem?_cons_zero, Option.bind_some, goInt, conv, convA, conv1, List.toList_toArray, Option.get!_some, ne_eq, not_false_eq_true, decide_false, decide_true, Nat.reduceEqDiff, Nat.reduceLT, Option.map_some, List.map_cons, List.map_nil, aops_nil, aops_plain, astep_val, astep_skip, astep_pan, putA_some, putA_none, aval_tmp, aval_const, aval_func, abind_normal, abind_exit, abind_ret, abind_pan, acode_seq, acode_region, acode_skip, acode_exit, acode_ret, acode_block, ablock_normal, ablock_ret, ablock_self, aop_move, aop_assign, aop_box, obox_some, aop_fieldAddr, aop_load, oload_ep, aop_store, aop_bin, obin_lss, obin_add, aop_call, aop_len, aop_max, omax_int, List.length_set, getD_set_self, getD_set_ne, htm]
        · simp only [aop_un, oun_not, aops_if, aguard_tt, aguard_ff, aguard_tf, aguard_ft, aguard_un, gslot, gval_some, aop_pick, opick_true, opick_false, List.getElem?_toArray, List.getElem?_cons_succ, List.getElem?_cons_zero, Option.bind_some, goInt, conv, convA, conv1, List.toList_toArray, Option.get!_some, ne_eq, not_false_eq_true, decide_false, decide_true, Nat.reduceEqDiff, Nat.reduceLT, Option.map_some, List.map_cons, List.map_nil, aops_nil, aops_plain, astep_val, astep_skip, astep_pan, putA_some, putA_none, aval_tmp, aval_const, aval_func, abind_normal, abind_exit, abind_ret, abind_pan, acode_seq, acode_region, acode_skip, acode_exit, acode_ret, acode_block, ablock_normal, ablock_ret, ablock_self, aop_move, aop_assign, aop_box, obox_some, aop_fieldAddr, aop_load, oload_ep, aop_store, aop_bin, obin_lss, obin_add, aop_call, aop_len, aop_max, omax_int, List.length_set, getD_set_self, getD_set_ne, htm]; rfl
      rw [List.drop_zero] at hX2
      obtain ⟨tm1, e1, ⟨j, e2, e3, rfl⟩ | ⟨e2, rfl⟩⟩ := hX2
      · simp only [aop_un, oun_not, aops_if, aguard_tt, aguard_ff, aguard_tf, aguard_ft, aguard_un, gslot, gval_some, aop_pick, opick_true, opick_false, List.getElem?_toArray, List.getElem?_cons_succ, List.getElem?_cons_zero, Option.bind_some, goInt, conv, convA, conv1, List.toList_toArray, Option.get!_some, ne_eq, not_false_eq_true, decide_false, decide_true, Nat.reduceEqDiff, Nat.reduceLT, Option.map_some, List.map_cons, List.map_nil, aops_nil, aops_plain, astep_val, astep_skip, astep_pan, putA_some, putA_none, aval_tmp, aval_const, aval_func, abind_normal, abind_exit, abind_ret, abind_pan, acode_seq, acode_region, acode_skip, acode_exit, acode_ret, acode_block, ablock_normal, ablock_ret, ablock_self, aop_move, aop_assign, aop_box, obox_some, aop_fieldAddr, aop_load, oload_ep, aop_store, aop_bin, obin_lss, obin_add, aop_call, aop_len, aop_max, omax_int, List.length_set, getD_set_self, getD_set_ne] at hq
        subst hq
        exact ⟨tm1, _, rfl, e3, by rw [e2]; simp⟩
      · simp only [aop_un, oun_not, aops_if, aguard_tt, aguard_ff, aguard_tf, aguard_ft, aguard_un, gslot, gval_some, aop_pick, opick_true, opick_false, List.getElem?_toArray, List.getElem?_cons_succ, List.getElem?_cons_zero, Option.bind_some, goInt, conv, convA, conv1, List.toList_toArray, Option.get!_some, ne_eq, not_false_eq_true, decide_false, decide_true, Nat.reduceEqDiff, Nat.reduceLT, Option.map_some, List.map_cons, List.map_nil, aops_nil, aops_plain, astep_val, astep_skip, astep_pan, putA_some, putA_none, aval_tmp, aval_const, aval_func, abind_normal, abind_exit, abind_ret, abind_pan, acode_seq, acode_region, acode_skip, acode_exit, acode_ret, acode_block, ablock_normal, ablock_ret, ablock_self, aop_move, aop_assign, aop_box, obox_some, aop_fieldAddr, aop_load, oload_ep, aop_store, aop_bin, obin_lss, obin_add, aop_call, aop_len, aop_max, omax_int, List.length_set, getD_set_self, getD_set_ne, e1] at hq
        subst hq
        exact ⟨_, _, rfl, by simp only [aop_un, oun_not, aops_if, aguard_tt, aguard_ff, aguard_tf, aguard_ft, aguard_un, gslot, gval_some, aop_pick, opick_true, opick_false, List.getElem?_toArray, List.getElem?_cons_succ, List.getElem?_cons_zero, Option.bind_some, goInt, conv, convA, conv1, List.toList_toArray, Option.get!_some, ne_eq, not_false_eq_true, decide_false, decide_true, Nat.reduceEqDiff, Nat.reduceLT, Option.map_some, List.map_cons, List.map_nil, aops_nil, aops_plain, astep_val, astep_skip, astep_pan, putA_some, putA_none, aval_tmp, aval_const, aval_func, abind_normal, abind_exit, abind_ret, abind_pan, acode_seq, acode_region, acode_skip, acode_exit, acode_ret, acode_block, ablock_normal, ablock_ret, ablock_self, aop_move, aop_assign, aop_box, obox_some, aop_fieldAddr, aop_load, oload_ep, aop_store, aop_bin, obin_lss, obin_add, aop_call, aop_len, aop_max, omax_int, List.length_set, getD_set_self, getD_set_ne, e1]; rfl, by rw [e2]; rfl⟩
    refine ⟨r, hr, ?_⟩
    have := gc_all (ext := []) (x := .v (.int .i64 r)) hH rfl
    rw [List.append_nil] at this
    rw [acall_ret1 h109 code109 (t := 4) rfl (by rw [hc]; exact hx), ht, this]
  obtain ⟨r, hr, hcr⟩ := h1
  generalize hc : acall E orc (n + 1) = call at hcr
  obtain ⟨tm, hx, ht⟩ : ∃ (tm : List AV), acode E call (n + 1) (Tryz.f69.body.get!) (aframe E Tryz.f69 [.sl l.length (VT.encL l), .fn (.func g) [] []] H) = some (.ret, ⟨tm, [], H⟩) ∧ tm.getD 4 (.v undef) = .v (.bool (l.any p)) := by
    obtain ⟨tm0, htm, h0, h1, hfr⟩ : ∃ tm0 : List AV, tm0.length = 9 ∧ tm0.getD 0 (.v undef) = .sl l.length (VT.encL l) ∧ tm0.getD 1 (.v undef) = .fn (.func g) [] [] ∧ aframe E Tryz.f69 [.sl l.length (VT.encL l), .fn (.func g) [] []] H = ⟨tm0, [], H⟩ := ⟨_, rfl, rfl, rfl, rfl⟩
    rw [hfr]
    generalize hq : acode E call (n + 1) (Tryz.f69.body.get!) ⟨tm0, [], H⟩ = q
    simp [Tryz.f69] at hq
    simp only [aop_un, oun_not, aops_if, aguard_tt, aguard_ff, aguard_tf, aguard_ft, aguard_un, gslot, gval_some, aop_pick, opick_true, opick_false, List.getElem?_toArray, List.getElem?_cons_succ, List.getElem?_cons_zero, Option.bind_some, goInt, conv, convA, conv1, List.toList_toArray, Option.get!_some, ne_eq, not_false_eq_true, decide_false, decide_true, Nat.reduceEqDiff, Nat.reduceLT, Option.map_some, List.map_cons, List.map_nil, aops_nil, aops_plain, astep_val, astep_skip, astep_pan, putA_some, putA_none, aval_tmp, aval_const, aval_func, abind_normal, abind_exit, abind_ret, abind_pan, acode_seq, acode_region, acode_skip, acode_exit, acode_ret, acode_block, ablock_normal, ablock_ret, ablock_self, aop_move, aop_assign, aop_box, obox_some, aop_fieldAddr, aop_load, oload_ep, aop_store, aop_bin, obin_lss, obin_add, aop_call, aop_len, aop_max, omax_int, List.length_set, getD_set_self, getD_set_ne, htm, h0, h1, ocall_fn code109, astep_enter hcr, obin_geq, hr] at hq
    subst hq
    exact ⟨_, rfl, by simp only [aop_un, oun_not, aops_if, aguard_tt, aguard_ff, aguard_tf, aguard_ft, aguard_un, gslot, gval_some, aop_pick, opick_true, opick_false, List.getElem?_toArray, List.getElem?_cons_succ, List.getElem?_cons_zero, Option.bind_some, goInt, conv, convA, conv1, List.toList_toArray, Option.get!_some, ne_eq, not_false_eq_true, decide_false, decide_true, Nat.reduceEqDiff, Nat.reduceLT, Option.map_some, List.map_cons, List.map_nil, aops_nil, aops_plain, astep_val, astep_skip, astep_pan, putA_some, putA_none, aval_tmp, aval_const, aval_func, abind_normal, abind_exit, abind_ret, abind_pan, acode_seq, acode_region, acode_skip, acode_exit, acode_ret, acode_block, ablock_normal, ablock_ret, ablock_self, aop_move, aop_assign, aop_box, obox_some, aop_fieldAddr, aop_load, oload_ep, aop_store, aop_bin, obin_lss, obin_add, aop_call, aop_len, aop_max, omax_int, List.length_set, getD_set_self, getD_set_ne, htm]⟩
  have := gc_all (ext := []) (x := .v (.bool (l.any p))) hH rfl
  rw [List.append_nil] at this
  rw [acall_ret1 h69 code69 (t := 4) rfl (by rw [hc]; exact hx), ht, this]

end Go.AI.Jx
end
section
set_option linter.all false
namespace Go.AI.Jx
open Go Go.Proofs

theorem code110 : E.code 110 = some (Tryz.f110, (Tryz.f110.body).get!) := by kernel_rfl
theorem code71 : E.code 71 = some (Tryz.f71, (Tryz.f71.body).get!) := by kernel_rfl
noncomputable def body110 : Code := sub [1, 0, 1, 0, 0] ((Tryz.f110.body).get!)

theorem index110_loop (call : CallFn) (n g : Nat) (cg : Func × Code) (hg : E.code g = some cg) (p : ByteArray → Bool) (l : List ByteArray) (H : Heap) (hcall : ∀ x ∈ l, call g [.v (.string x)] H = some (.ret (.v (.bool (p x))), H)) (hl : l.length < 2 ^ 40) : ∀ (q i : Nat) (tm : List AV), tm.length = 19 →
    tm.getD 0 (.v undef) = .sl l.length (namesA l) → tm.getD 1 (.v undef) = .fn (.func g) [] [] → tm.getD 7 (.v undef) = .v (.int .i64 l.length) → tm.getD 8 (.v undef) = .v (.int .i64 i) → l.length - i < q → i ≤ l.length →
    ∃ (tm' : List AV), tm'.length = 19 ∧ ((∃ j : Nat, (l.drop i).any p = true ∧ tm'.getD 4 (.v undef) = .v (.int .i64 j) ∧ aloop (acode E call n body110) q ⟨tm, [], H⟩ = some (.ret, ⟨tm', [], H⟩)) ∨
      ((l.drop i).any p = false ∧ aloop (acode E call n body110) q ⟨tm, [], H⟩ = some (.exit 0, ⟨tm', [], H⟩)))
  | 0, i, tm, _, _, _, _, _, h, _ => by omega
  | q + 1, i, tm, htm, h0, h1, h7, h8, hk, hi => by
    rw [aloop_succ]
    generalize hq : acode E call n body110 ⟨tm, [], H⟩ = r
    simp [body110, sub, Tryz.f110] at hq
    by_cases hlt : i < l.length
    · obtain ⟨x, hx⟩ : ∃ x, l[i]? = some x := ⟨l[i], List.getElem?_eq_getElem hlt⟩
      obtain ⟨hi', hxe⟩ := List.getElem?_eq_some_iff.1 hx
      have hmx : (l.drop i).any p = (p x || (l.drop (i + 1)).any p) := by rw [List.drop_eq_getElem_cons hi', hxe]; rfl
      have hw : IntKind.i64.wrap ((i : Int) + 1) = ((i + 1 : Nat) : Int) := by rw [i64_wrap (by omega) (by omega)]; omega
      have hcx := hcall x (List.mem_of_getElem? hx)
      cases hp : p x with
      | true =>
        rw [hp] at hcx
        simp only [aop_un, oun_not, aops_if, aguard_tt, aguard_ff, aguard_tf, aguard_ft, aguard_un, gslot, gval_some, aop_pick, opick_true, opick_false, List.getElem?_toArray, List.getElem?_cons_succ, List.getElem?_cons_zero, Option.bind_some, goInt, conv, convA, conv1, List.toList_toArray, Option.get!_some, ne_eq, not_false_eq_true, decide_false, decide_true, Nat.reduceEqDiff, Nat.reduceLT, Option.map_some, List.map_cons, List.map_nil, aops_nil, aops_plain, astep_val, astep_skip, astep_pan, putA_some, putA_none, aval_tmp, aval_const, aval_func, abind_normal, abind_exit, abind_ret, abind_pan, acode_seq, acode_region, acode_skip, acode_exit, acode_ret, acode_block, ablock_normal, ablock_ret, ablock_self, aop_move, aop_assign, aop_box, obox_some, aop_fieldAddr, aop_load, oload_ep, aop_store, aop_bin, obin_lss, obin_add, aop_call, aop_len, aop_max, omax_int, List.length_set, getD_set_self, getD_set_ne, htm, h0, h1, h7, h8, Int.ofNat_lt, hlt, acode_true, acode_false, aop_index und26, idx26 hlt, load9_ep hx, ocall_fn hg, astep_enter hcx] at hq
        subst hq
        exact ⟨_, by simp only [aop_un, oun_not, aops_if, aguard_tt, aguard_ff, aguard_tf, aguard_ft, aguard_un, gslot, gval_some, aop_pick, opick_true, opick_false, List.getElem?_toArray, List.getElem?_cons_succ, List.getElem?_cons_zero, Option.bind_some, goInt, conv, convA, conv1, List.toList_toArray, Option.get!_some, ne_eq, not_false_eq_true, decide_false, decide_true, Nat.reduceEqDiff, Nat.reduceLT, Option.map_some, List.map_cons, List.map_nil, aops_nil, aops_plain, astep_val, astep_skip, astep_pan, putA_some, putA_none, aval_tmp, aval_const, aval_func, abind_normal, abind_exit, abind_ret, abind_pan, acode_seq, acode_region, acode_skip, acode_exit, acode_ret, acode_block, ablock_normal, ablock_ret, ablock_self, aop_move, aop_assign, aop_box, obox_some, aop_fieldAddr, aop_load, oload_ep, aop_store, aop_bin, obin_lss, obin_add, aop_call, aop_len, aop_max, omax_int, List.length_set, getD_set_self, getD_set_ne, htm], .inl ⟨i, by rw [hmx, hp]; rfl, by simp only [aop_un, oun_not, aops_if, aguard_tt, aguard_ff, aguard_tf, aguard_ft, aguard_un, gslot, gval_some, aop_pick, opick_true, opick_false, List.getElem?_toArray, List.getElem?_cons_succ, List.getElem?_cons_zero, Option.bind_some, goInt, conv, convA, conv1, List.toList_toArray, Option.get!_some, ne_eq, not_false_eq_true, decide_false, decide_true, Nat.reduceEqDiff, Nat.reduceLT, Option.map_some, List.map_cons, List.map_nil, aops_nil, aops_plain, astep_val, astep_skip, astep_pan, putA_some, putA_none, aval_tmp, aval_const, aval_func, abind_normal, abind_exit, abind_ret, abind_pan, acode_seq, acode_region, acode_skip, acode_exit, acode_ret, acode_block, ablock_normal, ablock_ret, ablock_self, aop_move, aop_assign, aop_box, obox_some, aop_fieldAddr, aop_load, oload_ep, aop_store, aop_bin, obin_lss, obin_add, aop_call, aop_len, aop_max, omax_int, List.length_set, getD_set_self, getD_set_ne, htm], rfl⟩⟩
      | false =>
        rw [hp] at hcx
        simp only [aop_un, oun_not, aops_if, aguard_tt, aguard_ff, aguard_tf, aguard_ft, aguard_un, gslot, gval_some, aop_pick, opick_true, opick_false, List.getElem?_toArray, List.getElem?_cons_succ, List.getElem?_cons_zero, Option.bind_some, goInt, conv, convA, conv1, List.toList_toArray, Option.get!_some, ne_eq, not_false_eq_true, decide_false, decide_true, Nat.reduceEqDiff, Nat.reduceLT, Option.map_some, List.map_cons, List.map_nil, aops_nil, aops_plain, astep_val, astep_skip, astep_pan, putA_some, putA_none, aval_tmp, aval_const, aval_func, abind_normal, abind_exit, abind_ret, abind_pan, acode_seq, acode_region, acode_skip, acode_exit, acode_ret, acode_block, ablock_normal, ablock_ret, ablock_self, aop_move, aop_assign, aop_box, obox_some, aop_fieldAddr, aop_load, oload_ep, aop_store, aop_bin, obin_lss, obin_add, aop_call, aop_len, aop_max, omax_int, List.length_set, getD_set_self, getD_set_ne, htm, h0, h1, h7, h8, Int.ofNat_lt, hlt, acode_true, acode_false, aop_index und26, idx26 hlt, load9_ep hx, ocall_fn hg, astep_enter hcx, hw] at hq
        subst hq
        rw [abind_normal, hmx, hp, Bool.false_or]
        refine index110_loop call n g cg hg p l H hcall hl q (i + 1) _ ?_ ?_ ?_ ?_ ?_ (by omega) (by omega)
        · simp only [aop_un, oun_not, aops_if, aguard_tt, aguard_ff, aguard_tf, aguard_ft, aguard_un, gslot, gval_some, aop_pick, opick_true, opick_false, List.getElem?_toArray, List.getElem?_cons_succ, List.getElem?_cons_zero, Option.bind_some, goInt, conv, convA, conv1, List.toList_toArray, Option.get!_some, ne_eq, not_false_eq_true, decide_false, decide_true, Nat.reduceEqDiff, Nat.reduceLT, Option.map_some, List.map_cons, List.map_nil, aops_nil, aops_plain, astep_val, astep_skip, astep_pan, putA_some, putA_none, aval_tmp, aval_const, aval_func, abind_normal, abind_exit, abind_ret, abind_pan, acode_seq, acode_region, acode_skip, acode_exit, acode_ret, acode_block, ablock_normal, ablock_ret, ablock_self, aop_move, aop_assign, aop_box, obox_some, aop_fieldAddr, aop_load, oload_ep, aop_store, aop_bin, obin_lss, obin_add, aop_call, aop_len, aop_max, omax_int, List.length_set, getD_set_self, getD_set_ne, htm]
        · simp only [aop_un, oun_not, aops_if, aguard_tt, aguard_ff, aguard_tf, aguard_ft, aguard_un, gslot, gval_some, aop_pick, opick_true, opick_false, List.getElem?_toArray, List.getElem?_cons_succ, List.getElem?_cons_zero, Option.bind_some, goInt, conv, convA, conv1, List.toList_toArray, Option.get!_some, ne_eq, not_false_eq_true, decide_false, decide_true, Nat.reduceEqDiff, Nat.reduceLT, Option.map_some, List.map_cons, List.map_nil, aops_nil, aops_plain, astep_val, astep_skip, astep_pan, putA_some, putA_none, aval_tmp, aval_const, aval_func, abind_normal, abind_exit, abind_ret, abind_pan, acode_seq, acode_region, acode_skip, acode_exit, acode_ret, acode_block, ablock_normal, ablock_ret, ablock_self, aop_move, aop_assign, aop_box, obox_some, aop_fieldAddr, aop_load, oload_ep, aop_store, aop_bin, obin_lss, obin_add, aop_call, aop_len, aop_max, omax_int, List.length_set, getD_set_self, getD_set_ne, htm, h0]
        · simp only [aop_un, oun_not, aops_if, aguard_tt, aguard_ff, aguard_tf, aguard_ft, aguard_un, gslot, gval_some, aop_pick, opick_true, opick_false, List.getElem?_toArray, List.getElem?_cons_succ, List.getElem?_cons_zero, Option.bind_some, goInt, conv, convA, conv1, List.toList_toArray, Option.get!_some, ne_eq, not_false_eq_true, decide_false, decide_true, Nat.reduceEqDiff, Nat.reduceLT, Option.map_some, List.map_cons, List.map_nil, aops_nil, aops_plain, astep_val, astep_skip, astep_pan, putA_some, putA_none, aval_tmp, aval_const, aval_func, abind_normal, abind_exit, abind_ret, abind_pan, acode_seq, acode_region, acode_skip, acode_exit, acode_ret, acode_block, ablock_normal, ablock_ret, ablock_self, aop_move, aop_assign, aop_box, obox_some, aop_fieldAddr, aop_load, oload_ep, aop_store, aop_bin, obin_lss, obin_add, aop_call, aop_len, aop_max, omax_int, List.length_set, getD_set_self, getD_set_ne, htm, h1]
        · simp only [aop_un, oun_not, aops_if, aguard_tt, aguard_ff, aguard_tf, aguard_ft, aguard_un, gslot, gval_some, aop_pick, opick_true, opick_false, List.getElem?_toArray, List.getElem?_cons_succ, List.getElem?_cons_zero, Option.bind_some, goInt, conv, convA, conv1, List.toList_toArray, Option.get!_some, ne_eq, not_false_eq_true, decide_false, decide_true, Nat.reduceEqDiff, Nat.reduceLT, Option.map_some, List.map_cons, List.map_nil, aops_nil, aops_plain, astep_val, astep_skip, astep_pan, putA_some, putA_none, aval_tmp, aval_const, aval_func, abind_normal, abind_exit, abind_ret, abind_pan, acode_seq, acode_region, acode_skip, acode_exit, acode_ret, acode_block, ablock_normal, ablock_ret, ablock_self, aop_move, aop_assign, aop_box, obox_some, aop_fieldAddr, aop_load, oload_ep, aop_store, aop_bin, obin_lss, obin_add, aop_call, aop_len, aop_max, omax_int, List.length_set, getD_set_self, getD_set_ne, htm, h7]
        · simp only [aop_un, oun_not, aops_if, aguard_tt, aguard_ff, aguard_tf, aguard_ft, aguard_un, gslot, gval_some, aop_pick, opick_true, opick_false, List.getElem?_toArray, List.getElem?_cons_succ, List.getElem?_cons_zero, Option.bind_some, goInt, conv, convA, conv1, List.toList_toArray, Option.get!_some, ne_eq, not_false_eq_true, decide_false, decide_true, Nat.reduceEqDiff, Nat.reduceLT, Option.map_some, List.map_cons, List.map_nil, aops_nil, aops_plain, astep_val, astep_skip, astep_pan, putA_some, putA_none, aval_tmp, aval_const, aval_func, abind_normal, abind_exit, abind_ret, abind_pan, acode_seq, acode_region, acode_skip, acode_exit, acode_ret, acode_block, ablock_normal, ablock_ret, ablock_self, aop_move, aop_assign, aop_box, obox_some, aop_fieldAddr, aop_load, oload_ep, aop_store, aop_bin, obin_lss, obin_add, aop_call, aop_len, aop_max, omax_int, List.length_set, getD_set_self, getD_set_ne, htm]
    · have : i = l.length := by omega
      subst this
      simp only [aop_un, oun_not, aops_if, aguard_tt, aguard_ff, aguard_tf, aguard_ft, aguard_un, gslot, gval_some, aop_pick, opick_true, opick_false, List.getElem?_toArray, List.getElem?_cons_succ, List.getElem?_cons_zero, Option.bind_some, goInt, conv, convA, conv1, List.toList_toArray, Option.get!_some, ne_eq, not_false_eq_true, decide_false, decide_true, Nat.reduceEqDiff, Nat.reduceLT, Option.map_some, List.map_cons, List.map_nil, aops_nil, aops_plain, astep_val, astep_skip, astep_pan, putA_some, putA_none, aval_tmp, aval_const, aval_func, abind_normal, abind_exit, abind_ret, abind_pan, acode_seq, acode_region, acode_skip, acode_exit, acode_ret, acode_block, ablock_normal, ablock_ret, ablock_self, aop_move, aop_assign, aop_box, obox_some, aop_fieldAddr, aop_load, oload_ep, aop_store, aop_bin, obin_lss, obin_add, aop_call, aop_len, aop_max, omax_int, List.length_set, getD_set_self, getD_set_ne, htm, h0, h1, h7, h8, Int.lt_irrefl, acode_true, acode_false] at hq
      subst hq
      exact ⟨_, by simp only [aop_un, oun_not, aops_if, aguard_tt, aguard_ff, aguard_tf, aguard_ft, aguard_un, gslot, gval_some, aop_pick, opick_true, opick_false, List.getElem?_toArray, List.getElem?_cons_succ, List.getElem?_cons_zero, Option.bind_some, goInt, conv, convA, conv1, List.toList_toArray, Option.get!_some, ne_eq, not_false_eq_true, decide_false, decide_true, Nat.reduceEqDiff, Nat.reduceLT, Option.map_some, List.map_cons, List.map_nil, aops_nil, aops_plain, astep_val, astep_skip, astep_pan, putA_some, putA_none, aval_tmp, aval_const, aval_func, abind_normal, abind_exit, abind_ret, abind_pan, acode_seq, acode_region, acode_skip, acode_exit, acode_ret, acode_block, ablock_normal, ablock_ret, ablock_self, aop_move, aop_assign, aop_box, obox_some, aop_fieldAddr, aop_load, oload_ep, aop_store, aop_bin, obin_lss, obin_add, aop_call, aop_len, aop_max, omax_int, List.length_set, getD_set_self, getD_set_ne, htm], .inr ⟨by rw [List.drop_length]; rfl, rfl⟩⟩

theorem contains71 (orc : Orc) (h71 : orc 71 = none) (h110 : orc 110 = none) (g : Nat) (cg : Func × Code) (hg : E.code g = some cg) (p : ByteArray → Bool) (l : List ByteArray) (hl : l.length < 2 ^ 40) (n : Nat) (hn : l.length < n) (H : Heap) (hH : OkH H)
    (hcall : ∀ x ∈ l, acall E orc n g [.v (.string x)] H = some (.ret (.v (.bool (p x))), H)) : acall E orc (n + 2) 71 [.sl l.length (namesA l), .fn (.func g) [] []] H = some (.ret (.v (.bool (l.any p))), H) := by
  have h1 : ∃ r : Int, decide (r ≥ 0) = l.any p ∧ acall E orc (n + 1) 110 [.sl l.length (namesA l), .fn (.func g) [] []] H = some (.ret (.v (.int .i64 r)), H) := by
    generalize hc : acall E orc n = call at hcall
    obtain ⟨tm, r, hx, ht, hr⟩ : ∃ (tm : List AV) (r : Int), acode E call n (Tryz.f110.body.get!) (aframe E Tryz.f110 [.sl l.length (namesA l), .fn (.func g) [] []] H) = some (.ret, ⟨tm, [], H⟩) ∧ tm.getD 4 (.v undef) = .v (.int .i64 r) ∧ decide (r ≥ 0) = l.any p := by
      obtain ⟨tm0, htm, h0, h1, hfr⟩ : ∃ tm0 : List AV, tm0.length = 19 ∧ tm0.getD 0 (.v undef) = .sl l.length (namesA l) ∧ tm0.getD 1 (.v undef) = .fn (.func g) [] [] ∧ aframe E Tryz.f110 [.sl l.length (namesA l), .fn (.func g) [] []] H = ⟨tm0, [], H⟩ := ⟨_, rfl, rfl, rfl, rfl⟩
      rw [hfr]
      generalize hq : acode E call n (Tryz.f110.body.get!) ⟨tm0, [], H⟩ = q
      simp [Tryz.f110] at hq
      simp only [aop_un, oun_not, aops_if, aguard_tt, aguard_ff, aguard_tf, aguard_ft, aguard_un, gslot, gval_some, aop_pick, opick_true, opick_false, List.getElem?_toArray, List.getElem?_cons_succ, List.getElem?_cons_zero, Option.bind_some, goInt, conv, convA, conv1, List.toList_toArray, Option.get!_some, ne_eq, not_false_eq_true, decide_false, decide_true, Nat.reduceEqDiff, Nat.reduceLT, Option.map_some, List.map_cons, List.map_nil, aops_nil, aops_plain, astep_val, astep_skip, astep_pan, putA_some, putA_none, aval_tmp, aval_const, aval_func, abind_normal, abind_exit, abind_ret, abind_pan, acode_seq, acode_region, acode_skip, acode_exit, acode_ret, acode_block, ablock_normal, ablock_ret, ablock_self, aop_move, aop_assign, aop_box, obox_some, aop_fieldAddr, aop_load, oload_ep, aop_store, aop_bin, obin_lss, obin_add, aop_call, aop_len, aop_max, omax_int, List.length_set, getD_set_self, getD_set_ne, htm, h0, h1, olen_sl und26] at hq
      generalize hX : acode E call n (Code.loop _) _ = X at hq
      rw [acode_loop] at hX
      have hX2 : ∃ (tm' : List AV), tm'.length = 19 ∧ ((∃ j : Nat, (l.drop 0).any p = true ∧ tm'.getD 4 (.v undef) = .v (.int .i64 j) ∧ X = some (.ret, ⟨tm', [], H⟩)) ∨
          ((l.drop 0).any p = false ∧ X = some (.exit 0, ⟨tm', [], H⟩))) := by
        rw [← hX]
        refine index110_loop call n g cg hg p l H hcall hl n 0 _ ?_ ?_ ?_ ?_ ?_ (by omega) (by omega)
        · simp only [aop_un, oun_not, aops_if, aguard_tt, aguard_ff, aguard_tf, aguard_ft, aguard_un, gslot, gval_some, aop_pick, opick_true, opick_false, List.getElem?_toArray, List.getElem?_cons_succ, List.getElem?_cons_zero, Option.bind_some, goInt, conv, convA, conv1, List.toList_toArray, Option.get!_some, ne_eq, not_false_eq_true, decide_false, decide_true, Nat.reduceEqDiff, Nat.reduceLT, Option.map_some, List.map_cons, List.map_nil, aops_nil, aops_plain, astep_val, astep_skip, astep_pan, putA_some, putA_none, aval_tmp, aval_const, aval_func, abind_normal, abind_exit, abind_ret, abind_pan, acode_seq, acode_region, acode_skip, acode_exit, acode_ret, acode_block, ablock_normal, ablock_ret, ablock_self, aop_move, aop_assign, aop_box, obox_some, aop_fieldAddr, aop_load, oload_ep, aop_store, aop_bin, obin_lss, obin_add, aop_call, aop_len, aop_max, omax_int, List.length_set, getD_set_self, getD_set_ne, htm]
        · simp only [aop_un, oun_not, aops_if, aguard_tt, aguard_ff, aguard_tf, aguard_ft, aguard_un, gslot, gval_some, aop_pick, opick_true, opick_false, List.getElem?_toArray, List.getElem?_cons_succ, List.getElem?_cons_zero, Option.bind_some, goInt, conv, convA, conv1, List.toList_toArray, Option.get!_some, ne_eq, not_false_eq_true, decide_false, decide_true, Nat.reduceEqDiff, Nat.reduceLT, Option.map_some, List.map_cons, List.map_nil, aops_nil, aops_plain, astep_val, astep_skip, astep_pan, putA_some, putA_none, aval_tmp, aval_const, aval_func, abind_normal, abind_exit, abind_ret, abind_pan, acode_seq, acode_region, acode_skip, acode_exit, acode_ret, acode_block, ablock_normal, ablock_ret, ablock_self, aop_move, aop_assign, aop_box, obox_some, aop_fieldAddr, aop_load, oload_ep, aop_store, aop_bin, obin_lss, obin_add, aop_call, aop_len, aop_max, omax_int, List.length_set, getD_set_self, getD_set_ne, htm, h0]
        · simp only [aop_un, oun_not, aops_if, aguard_tt, aguard_ff, aguard_tf, aguard_ft, aguard_un, gslot, gval_some, aop_pick, opick_true, opick_false, List.getElem?_toArray, List.getElem?_cons_succ, List.getElem?_cons_zero, Option.bind_some, goInt, conv, convA, conv1, List.toList_toArray, Option.get!_some, ne_eq, not_false_eq_true, decide_false, decide_true, Nat.reduceEqDiff, Nat.reduceLT, Option.map_some, List.map_cons, List.map_nil, aops_nil, aops_plain, astep_val, astep_skip, astep_pan, putA_some, putA_none, aval_tmp, aval_const, aval_func, abind_normal, abind_exit, abind_ret, abind_pan, acode_seq, acode_region, acode_skip, acode_exit, acode_ret, acode_block, ablock_normal, ablock_ret, ablock_self, aop_move, aop_assign, aop_box, obox_some, aop_fieldAddr, aop_load, oload_ep, aop_store, aop_bin, obin_lss, obin_add, aop_call, aop_len, aop_max, omax_int, List.length_set, getD_set_self, getD_set_ne, htm, h1]
        · simp only [aop_un, oun_not, aops_if, aguard_tt, aguard_ff, aguard_tf, aguard_ft, aguard_un, gslot, gval_some, aop_pick, opick_true, opick_false, List.getElem?_toArray, List.getElem?_cons_succ, List.getElem?_cons_zero, Option.bind_some, goInt, conv, convA, conv1, List.toList_toArray, Option.get!_some, ne_eq, not_false_eq_true, decide_false, decide_true, Nat.reduceEqDiff, Nat.reduceLT, Option.map_some, List.map_cons, List.map_nil, aops_nil, aops_plain, astep_val, astep_skip, astep_pan, putA_some, putA_none, aval_tmp, aval_const, aval_func, abind_normal, abind_exit, abind_ret, abind_pan, acode_seq, acode_region, acode_skip, acode_exit, acode_ret, acode_block, ablock_normal, ablock_ret, ablock_self, aop_move, aop_assign, aop_box, obox_some, aop_fieldAddr, aop_load, oload_ep, aop_store, aop_bin, obin_lss, obin_add, aop_call, aop_len, aop_max, omax_int, List.length_set, getD_set_self, getD_set_ne, htm]
        · simp only [aop_un, oun_not, aops_if, aguard_tt, aguard_ff, aguard_tf, aguard_ft, aguard_un, gslot, gval_some, aop_pick, opick_true, opick_false, List.getElem?_toArray, List.getElem?_cons_succ, List.getElem?_cons_zero, Option.bind_some, goInt, conv, convA, conv1, List.toList_toArray, Option.get!_some, ne_eq, not_false_eq_true, decide_false, decide_true, Nat.reduceEqDiff, Nat.reduceLT, Option.map_some, List.map_cons, List.map_nil, aops_nil, aops_plain, astep_val, astep_skip, astep_pan, putA_some, putA_none, aval_tmp, aval_const, aval_func, abind_normal, abind_exit, abind_ret, abind_pan, acode_seq, acode_region, acode_skip, acode_exit, acode_ret, acode_block, ablock_normal, ablock_ret, ablock_self, aop_move, aop_assign, aop_box, obox_some, aop_fieldAddr, aop_load, oload_ep, aop_store, aop_bin, obin_lss, obin_add, aop_call, aop_len, aop_max, omax_int, List.length_set, getD_set_self, getD_set_ne, htm]; rfl
      rw [List.drop_zero] at hX2
      obtain ⟨tm1, e1, ⟨j, e2, e3, rfl⟩ | ⟨e2, rfl⟩⟩ := hX2
      · simp only [aop_un, oun_not, aops_if, aguard_tt, aguard_ff, aguard_tf, aguard_ft, aguard_un, gslot, gval_some, aop_pick, opick_true, opick_false, List.getElem?_toArray, List.getElem?_cons_succ, List.getElem?_cons_zero, Option.bind_some, goInt, conv, convA, conv1, List.toList_toArray, Option.get!_some, ne_eq, not_false_eq_true, decide_false, decide_true, Nat.reduceEqDiff, Nat.reduceLT, Option.map_some, List.map_cons, List.map_nil, aops_nil, aops_plain, astep_val, astep_skip, astep_pan, putA_some, putA_none, aval_tmp, aval_const, aval_func, abind_normal, abind_exit, abind_ret, abind_pan, acode_seq, acode_region, acode_skip, acode_exit, acode_ret, acode_block, ablock_normal, ablock_ret, ablock_self, aop_move, aop_assign, aop_box, obox_some, aop_fieldAddr, aop_load, oload_ep, aop_store, aop_bin, obin_lss, obin_add, aop_call, aop_len, aop_max, omax_int, List.length_set, getD_set_self, getD_set_ne] at hq
        subst hq
        exact ⟨tm1, _, rfl, e3, by rw [e2]; simp⟩
      · simp only [aop_un, oun_not, aops_if, aguard_tt, aguard_ff, aguard_tf, aguard_ft, aguard_un, gslot, gval_some, aop_pick, opick_true, opick_false, List.getElem?_toArray, List.getElem?_cons_succ, List.getElem?_cons_zero, Option.bind_some, goInt, conv, convA, conv1, List.toList_toArray, Option.get!_some, ne_eq, not_false_eq_true, decide_false, decide_true, Nat.reduceEqDiff, Nat.reduceLT, Option.map_some, List.map_cons, List.map_nil, aops_nil, aops_plain, astep_val, astep_skip, astep_pan, putA_some, putA_none, aval_tmp, aval_const, aval_func, abind_normal, abind_exit, abind_ret, abind_pan, acode_seq, acode_region, acode_skip, acode_exit, acode_ret, acode_block, ablock_normal, ablock_ret, ablock_self, aop_move, aop_assign, aop_box, obox_some, aop_fieldAddr, aop_load, oload_ep, aop_store, aop_bin, obin_lss, obin_add, aop_call, aop_len, aop_max, omax_int, List.length_set, getD_set_self, getD_set_ne, e1] at hq
        subst hq
        exact ⟨_, _, rfl, by simp only [aop_un, oun_not, aops_if, aguard_tt, aguard_ff, aguard_tf, aguard_ft, aguard_un, gslot, gval_some, aop_pick, opick_true, opick_false, List.getElem?_toArray, List.getElem?_cons_succ, List.getElem?_cons_zero, Option.bind_some, goInt, conv, convA, conv1, List.toList_toArray, Option.get!_some, ne_eq, not_false_eq_true, decide_false, decide_true, Nat.reduceEqDiff, Nat.reduceLT, Option.map_some, List.map_cons, List.map_nil, aops_nil, aops_plain, astep_val, astep_skip, astep_pan, putA_some, putA_none, aval_tmp, aval_const, aval_func, abind_normal, abind_exit, abind_ret, abind_pan, acode_seq, acode_region, acode_skip, acode_exit, acode_ret, acode_block, ablock_normal, ablock_ret, ablock_self, aop_move, aop_assign, aop_box, obox_some, aop_fieldAddr, aop_load, oload_ep, aop_store, aop_bin, obin_lss, obin_add, aop_call, aop_len, aop_max, omax_int, List.length_set, getD_set_self, getD_set_ne, e1]; rfl, by rw [e2]; rfl⟩
    refine ⟨r, hr, ?_⟩
    have := gc_all (ext := []) (x := .v (.int .i64 r)) hH rfl
    rw [List.append_nil] at this
    rw [acall_ret1 h110 code110 (t := 4) rfl (by rw [hc]; exact hx), ht, this]
  obtain ⟨r, hr, hcr⟩ := h1
  generalize hc : acall E orc (n + 1) = call at hcr
  obtain ⟨tm, hx, ht⟩ : ∃ (tm : List AV), acode E call (n + 1) (Tryz.f71.body.get!) (aframe E Tryz.f71 [.sl l.length (namesA l), .fn (.func g) [] []] H) = some (.ret, ⟨tm, [], H⟩) ∧ tm.getD 4 (.v undef) = .v (.bool (l.any p)) := by
    obtain ⟨tm0, htm, h0, h1, hfr⟩ : ∃ tm0 : List AV, tm0.length = 9 ∧ tm0.getD 0 (.v undef) = .sl l.length (namesA l) ∧ tm0.getD 1 (.v undef) = .fn (.func g) [] [] ∧ aframe E Tryz.f71 [.sl l.length (namesA l), .fn (.func g) [] []] H = ⟨tm0, [], H⟩ := ⟨_, rfl, rfl, rfl, rfl⟩
    rw [hfr]
    generalize hq : acode E call (n + 1) (Tryz.f71.body.get!) ⟨tm0, [], H⟩ = q
    simp [Tryz.f71] at hq
    simp only [aop_un, oun_not, aops_if, aguard_tt, aguard_ff, aguard_tf, aguard_ft, aguard_un, gslot, gval_some, aop_pick, opick_true, opick_false, List.getElem?_toArray, List.getElem?_cons_succ, List.getElem?_cons_zero, Option.bind_some, goInt, conv, convA, conv1, List.toList_toArray, Option.get!_some, ne_eq, not_false_eq_true, decide_false, decide_true, Nat.reduceEqDiff, Nat.reduceLT, Option.map_some, List.map_cons, List.map_nil, aops_nil, aops_plain, astep_val, astep_skip, astep_pan, putA_some, putA_none, aval_tmp, aval_const, aval_func, abind_normal, abind_exit, abind_ret, abind_pan, acode_seq, acode_region, acode_skip, acode_exit, acode_ret, acode_block, ablock_normal, ablock_ret, ablock_self, aop_move, aop_assign, aop_box, obox_some, aop_fieldAddr, aop_load, oload_ep, aop_store, aop_bin, obin_lss, obin_add, aop_call, aop_len, aop_max, omax_int, List.length_set, getD_set_self, getD_set_ne, htm, h0, h1, ocall_fn code110, astep_enter hcr, obin_geq, hr] at hq
    subst hq
    exact ⟨_, rfl, by simp only [aop_un, oun_not, aops_if, aguard_tt, aguard_ff, aguard_tf, aguard_ft, aguard_un, gslot, gval_some, aop_pick, opick_true, opick_false, List.getElem?_toArray, List.getElem?_cons_succ, List.getElem?_cons_zero, Option.bind_some, goInt, conv, convA, conv1, List.toList_toArray, Option.get!_some, ne_eq, not_false_eq_true, decide_false, decide_true, Nat.reduceEqDiff, Nat.reduceLT, Option.map_some, List.map_cons, List.map_nil, aops_nil, aops_plain, astep_val, astep_skip, astep_pan, putA_some, putA_none, aval_tmp, aval_const, aval_func, abind_normal, abind_exit, abind_ret, abind_pan, acode_seq, acode_region, acode_skip, acode_exit, acode_ret, acode_block, ablock_normal, ablock_ret, ablock_self, aop_move, aop_assign, aop_box, obox_some, aop_fieldAddr, aop_load, oload_ep, aop_store, aop_bin, obin_lss, obin_add, aop_call, aop_len, aop_max, omax_int, List.length_set, getD_set_self, getD_set_ne, htm]⟩
  have := gc_all (ext := []) (x := .v (.bool (l.any p))) hH rfl
  rw [List.append_nil] at this
  rw [acall_ret1 h71 code71 (t := 4) rfl (by rw [hc]; exact hx), ht, this]

end Go.AI.Jx
end
section
set_option linter.all false
namespace Go.AI.Jx
open Go Go.Proofs

theorem code34 : E.code 34 = some (Tryz.f34, (Tryz.f34.body).get!) := by kernel_rfl
theorem code72 : E.code 72 = some (Tryz.f72, (Tryz.f72.body).get!) := by kernel_rfl
theorem code73 : E.code 73 = some (Tryz.f73, (Tryz.f73.body).get!) := by kernel_rfl
theorem size22 : sizeT E.P 22 = some 1 := by kernel_rfl
theorem agg22 : isAggT E.P 22 = some false := by kernel_rfl
theorem field0 {H : Heap} {id off : Nat} : ofield E.P 29 0 H (.ptr id off) = some (.val (.ptr id (off + 0)), H) := by kernel_rfl
theorem loadKind {k f n d e b t ns} {l : List VT} {H : Heap} : oload E.P 22 (H ++ [.box 29 (VT.enc (.mk k f n d e b t ns l))]) (.ptr H.length (0 + 0)) = some (.val (.v (.int .i64 k)), H ++ [.box 29 (VT.enc (.mk k f n d e b t ns l))]) := by
  have hH : (H ++ [AObj.box 29 (VT.enc (.mk k f n d e b t ns l))])[H.length]? = some (.box 29 (VT.enc (.mk k f n d e b t ns l))) := by simp
  rw [oload_ptr hH]
  simp [aload, agg22, size22, VT.enc]

def longName (s : ByteArray) : Bool := decide (s.size > 64)

theorem long72 (orc : Orc) (h72 : orc 72 = none) (n : Nat) (H : Heap) (hH : OkH H) (s : ByteArray) : acall E orc (n + 1) 72 [.v (.string s)] H = some (.ret (.v (.bool (longName s))), H) := by
  generalize hc : acall E orc n = call
  obtain ⟨tm, hx, ht⟩ : ∃ (tm : List AV), acode E call n (Tryz.f72.body.get!) (aframe E Tryz.f72 [.v (.string s)] H) = some (.ret, ⟨tm, [], H⟩) ∧ tm.getD 2 (.v undef) = .v (.bool (longName s)) := by
    obtain ⟨tm0, htm, h0, hfr⟩ : ∃ tm0 : List AV, tm0.length = 6 ∧ tm0.getD 0 (.v undef) = .v (.string s) ∧ aframe E Tryz.f72 [.v (.string s)] H = ⟨tm0, [], H⟩ := ⟨_, rfl, rfl, rfl⟩
    rw [hfr]
    generalize hq : acode E call n (Tryz.f72.body.get!) ⟨tm0, [], H⟩ = q
    simp [Tryz.f72] at hq
    simp only [aop_un, oun_not, aops_if, aguard_tt, aguard_ff, aguard_tf, aguard_ft, aguard_un, gslot, gval_some, aop_pick, opick_true, opick_false, List.getElem?_toArray, List.getElem?_cons_succ, List.getElem?_cons_zero, Option.bind_some, goInt, conv, convA, conv1, List.toList_toArray, Option.get!_some, ne_eq, not_false_eq_true, decide_false, decide_true, Nat.reduceEqDiff, Nat.reduceLT, Option.map_some, List.map_cons, List.map_nil, aops_nil, aops_plain, astep_val, astep_skip, astep_pan, putA_some, putA_none, aval_tmp, aval_const, aval_func, abind_normal, abind_exit, abind_ret, abind_pan, acode_seq, acode_region, acode_skip, acode_exit, acode_ret, acode_block, ablock_normal, ablock_ret, ablock_self, aop_move, aop_assign, aop_box, obox_some, aop_fieldAddr, aop_load, oload_ep, aop_store, aop_bin, obin_lss, obin_add, aop_call, aop_len, aop_max, omax_int, List.length_set, getD_set_self, getD_set_ne, htm, h0, len9, obin_gtr] at hq
    subst hq
    refine ⟨_, rfl, ?_⟩
    simp only [aop_un, oun_not, aops_if, aguard_tt, aguard_ff, aguard_tf, aguard_ft, aguard_un, gslot, gval_some, aop_pick, opick_true, opick_false, List.getElem?_toArray, List.getElem?_cons_succ, List.getElem?_cons_zero, Option.bind_some, goInt, conv, convA, conv1, List.toList_toArray, Option.get!_some, ne_eq, not_false_eq_true, decide_false, decide_true, Nat.reduceEqDiff, Nat.reduceLT, Option.map_some, List.map_cons, List.map_nil, aops_nil, aops_plain, astep_val, astep_skip, astep_pan, putA_some, putA_none, aval_tmp, aval_const, aval_func, abind_normal, abind_exit, abind_ret, abind_pan, acode_seq, acode_region, acode_skip, acode_exit, acode_ret, acode_block, ablock_normal, ablock_ret, ablock_self, aop_move, aop_assign, aop_box, obox_some, aop_fieldAddr, aop_load, oload_ep, aop_store, aop_bin, obin_lss, obin_add, aop_call, aop_len, aop_max, omax_int, List.length_set, getD_set_self, getD_set_ne, htm]
    congr 2
    unfold longName
    simp
    omega
  have := gc_all (ext := []) (x := .v (.bool (longName s))) hH rfl
  rw [List.append_nil] at this
  rw [acall_ret1 h72 code72 (t := 2) rfl (by rw [hc]; exact hx), ht, this]

mutual
def VT.short : VT → Bool
  | .mk k _ _ _ _ _ t ns l => !(decide (t.size > (if k = 9 then 64 else 4096)) || decide (l.length > 256) || ns.any longName) && !(VT.longL l)
def VT.longL : List VT → Bool
  | [] => false
  | v :: vs => !VT.short v || VT.longL vs
end
theorem longL_any : ∀ l : List VT, VT.longL l = l.any (fun v => !v.short)
  | [] => rfl
  | v :: vs => by simp [VT.longL, longL_any vs]

theorem short_ok (orc : Orc) (h34 : orc 34 = none) (h72 : orc 72 = none) (h73 : orc 73 = none) (h69 : orc 69 = none) (h109 : orc 109 = none) (h71 : orc 71 = none) (h110 : orc 110 = none) : ∀ (v : VT), v.need < 2 ^ 40 → ∀ n, v.need ≤ n → ∀ H, OkH H → acall E orc n 34 [.agg v.enc] H = some (.ret (.v (.bool v.short)), H)
  | .mk k f ng d e b t ns l, hv, n, hn, H, hH => by
    obtain ⟨n, rfl⟩ : ∃ m, n = m + 5 := ⟨n - 5, by simp only [VT.need] at hn; omega⟩
    have hok := okH_box (t := 29) hH (enc_under (.mk k f ng d e b t ns l))
    have hl : l.length < 2 ^ 40 := by simp only [VT.need] at hv; omega
    have hnl : ns.length < 2 ^ 40 := by simp only [VT.need] at hv; omega
    have h73c : ∀ x ∈ l, acall E orc (n + 2) 73 [.agg x.enc] (H ++ [.box 29 (VT.enc (.mk k f ng d e b t ns l))]) = some (.ret (.v (.bool (!x.short))), H ++ [.box 29 (VT.enc (.mk k f ng d e b t ns l))]) := by
      intro x hx
      have hxn := need_mem hx
      have hs := short_ok orc h34 h72 h73 h69 h109 h71 h110 x (by simp only [VT.need] at hv; omega) (n + 1) (by simp only [VT.need] at hn; omega) _ (okH_box (t := 29) hok (enc_under x))
      generalize H ++ [.box 29 (VT.enc (.mk k f ng d e b t ns l))] = H1 at hok hs ⊢
      generalize hc : acall E orc (n + 1) = call at hs
      obtain ⟨tm, ext, hx, ht⟩ : ∃ (tm : List AV) (ext : Heap), acode E call (n + 1) (Tryz.f73.body.get!) (aframe E Tryz.f73 [.agg x.enc] H1) = some (.ret, ⟨tm, [], H1 ++ ext⟩) ∧ tm.getD 2 (.v undef) = .v (.bool (!x.short)) := by
        obtain ⟨tm0, htm, h0, hfr⟩ : ∃ tm0 : List AV, tm0.length = 6 ∧ tm0.getD 0 (.v undef) = .agg x.enc ∧ aframe E Tryz.f73 [.agg x.enc] H1 = ⟨tm0, [], H1⟩ := ⟨_, rfl, rfl, rfl⟩
        rw [hfr]
        generalize hq : acode E call (n + 1) (Tryz.f73.body.get!) ⟨tm0, [], H1⟩ = q
        simp [Tryz.f73] at hq
        simp only [aop_un, oun_not, aops_if, aguard_tt, aguard_ff, aguard_tf, aguard_ft, aguard_un, gslot, gval_some, aop_pick, opick_true, opick_false, List.getElem?_toArray, List.getElem?_cons_succ, List.getElem?_cons_zero, Option.bind_some, goInt, conv, convA, conv1, List.toList_toArray, Option.get!_some, ne_eq, not_false_eq_true, decide_false, decide_true, Nat.reduceEqDiff, Nat.reduceLT, Option.map_some, List.map_cons, List.map_nil, aops_nil, aops_plain, astep_val, astep_skip, astep_pan, putA_some, putA_none, aval_tmp, aval_const, aval_func, abind_normal, abind_exit, abind_ret, abind_pan, acode_seq, acode_region, acode_skip, acode_exit, acode_ret, acode_block, ablock_normal, ablock_ret, ablock_self, aop_move, aop_assign, aop_box, obox_some, aop_fieldAddr, aop_load, oload_ep, aop_store, aop_bin, obin_lss, obin_add, aop_call, aop_len, aop_max, omax_int, List.length_set, getD_set_self, getD_set_ne, htm, h0, AV.cells?, load29_new, ocall_fn code34, astep_enter hs] at hq
        subst hq
        exact ⟨_, _, rfl, by simp only [aop_un, oun_not, aops_if, aguard_tt, aguard_ff, aguard_tf, aguard_ft, aguard_un, gslot, gval_some, aop_pick, opick_true, opick_false, List.getElem?_toArray, List.getElem?_cons_succ, List.getElem?_cons_zero, Option.bind_some, goInt, conv, convA, conv1, List.toList_toArray, Option.get!_some, ne_eq, not_false_eq_true, decide_false, decide_true, Nat.reduceEqDiff, Nat.reduceLT, Option.map_some, List.map_cons, List.map_nil, aops_nil, aops_plain, astep_val, astep_skip, astep_pan, putA_some, putA_none, aval_tmp, aval_const, aval_func, abind_normal, abind_exit, abind_ret, abind_pan, acode_seq, acode_region, acode_skip, acode_exit, acode_ret, acode_block, ablock_normal, ablock_ret, ablock_self, aop_move, aop_assign, aop_box, obox_some, aop_fieldAddr, aop_load, oload_ep, aop_store, aop_bin, obin_lss, obin_add, aop_call, aop_len, aop_max, omax_int, List.length_set, getD_set_self, getD_set_ne, htm]⟩
      rw [acall_ret1 h73 code73 (t := 2) rfl (by rw [hc]; exact hx), ht, gc_all hok rfl]
    have hcl := contains69 orc h69 h109 73 _ code73 (fun v => !v.short) l hl (n + 2) (by simp only [VT.need] at hn; omega) _ hok h73c
    have hcn := contains71 orc h71 h110 72 _ code72 longName ns hnl (n + 2) (by simp only [VT.need] at hn; omega) _ hok (fun s _ => long72 orc h72 (n + 1) _ hok s)
    generalize hc : acall E orc (n + 4) = call at hcl hcn
    obtain ⟨tm, ext, hx, ht⟩ : ∃ (tm : List AV) (ext : Heap), acode E call (n + 4) (Tryz.f34.body.get!) (aframe E Tryz.f34 [.agg (VT.enc (.mk k f ng d e b t ns l))] H) = some (.ret, ⟨tm, [], H ++ ext⟩) ∧ tm.getD 2 (.v undef) = .v (.bool (VT.short (.mk k f ng d e b t ns l))) := by
      obtain ⟨tm0, htm, h0, hfr⟩ : ∃ tm0 : List AV, tm0.length = 27 ∧ tm0.getD 0 (.v undef) = .agg (VT.enc (.mk k f ng d e b t ns l)) ∧ aframe E Tryz.f34 [.agg (VT.enc (.mk k f ng d e b t ns l))] H = ⟨tm0, [], H⟩ := ⟨_, rfl, rfl, rfl⟩
      rw [hfr]
      generalize hq : acode E call (n + 4) (Tryz.f34.body.get!) ⟨tm0, [], H⟩ = q
      simp [Tryz.f34] at hq
      have hlen : decide ((l.length : Int) > 256) = decide (l.length > 256) := by simp; omega
      have fin : ∀ (r : List AV) (b1 b2 b3 : Bool), True := fun _ _ _ _ => trivial
      by_cases hk : k = 9
      · have hkb : (k == (9 : Int)) = true := by simp [hk]
        have ht0 : decide ((t.size : Int) > 64) = decide (t.size > 64) := by simp; omega
        cases h1 : decide (t.size > 64) with
        | true =>
          simp only [aop_un, oun_not, aops_if, aguard_tt, aguard_ff, aguard_tf, aguard_ft, aguard_un, gslot, gval_some, aop_pick, opick_true, opick_false, List.getElem?_toArray, List.getElem?_cons_succ, List.getElem?_cons_zero, Option.bind_some, goInt, conv, convA, conv1, List.toList_toArray, Option.get!_some, ne_eq, not_false_eq_true, decide_false, decide_true, Nat.reduceEqDiff, Nat.reduceLT, Option.map_some, List.map_cons, List.map_nil, aops_nil, aops_plain, astep_val, astep_skip, astep_pan, putA_some, putA_none, aval_tmp, aval_const, aval_func, abind_normal, abind_exit, abind_ret, abind_pan, acode_seq, acode_region, acode_skip, acode_exit, acode_ret, acode_block, ablock_normal, ablock_ret, ablock_self, aop_move, aop_assign, aop_box, obox_some, aop_fieldAddr, aop_load, oload_ep, aop_store, aop_bin, obin_lss, obin_add, aop_call, aop_len, aop_max, omax_int, List.length_set, getD_set_self, getD_set_ne, htm, h0, AV.cells?, field0, loadKind, obin_eql, hkb, acode_true, acode_false, field4, loadText, len9, obin_gtr, ht0, h1] at hq
          subst hq
          exact ⟨_, _, rfl, by simp only [aop_un, oun_not, aops_if, aguard_tt, aguard_ff, aguard_tf, aguard_ft, aguard_un, gslot, gval_some, aop_pick, opick_true, opick_false, List.getElem?_toArray, List.getElem?_cons_succ, List.getElem?_cons_zero, Option.bind_some, goInt, conv, convA, conv1, List.toList_toArray, Option.get!_some, ne_eq, not_false_eq_true, decide_false, decide_true, Nat.reduceEqDiff, Nat.reduceLT, Option.map_some, List.map_cons, List.map_nil, aops_nil, aops_plain, astep_val, astep_skip, astep_pan, putA_some, putA_none, aval_tmp, aval_const, aval_func, abind_normal, abind_exit, abind_ret, abind_pan, acode_seq, acode_region, acode_skip, acode_exit, acode_ret, acode_block, ablock_normal, ablock_ret, ablock_self, aop_move, aop_assign, aop_box, obox_some, aop_fieldAddr, aop_load, oload_ep, aop_store, aop_bin, obin_lss, obin_add, aop_call, aop_len, aop_max, omax_int, List.length_set, getD_set_self, getD_set_ne, htm, VT.short, hk, if_true, h1]; rfl⟩
        | false =>
          cases h2 : decide (l.length > 256) with
          | true =>
            simp only [aop_un, oun_not, aops_if, aguard_tt, aguard_ff, aguard_tf, aguard_ft, aguard_un, gslot, gval_some, aop_pick, opick_true, opick_false, List.getElem?_toArray, List.getElem?_cons_succ, List.getElem?_cons_zero, Option.bind_some, goInt, conv, convA, conv1, List.toList_toArray, Option.get!_some, ne_eq, not_false_eq_true, decide_false, decide_true, Nat.reduceEqDiff, Nat.reduceLT, Option.map_some, List.map_cons, List.map_nil, aops_nil, aops_plain, astep_val, astep_skip, astep_pan, putA_some, putA_none, aval_tmp, aval_const, aval_func, abind_normal, abind_exit, abind_ret, abind_pan, acode_seq, acode_region, acode_skip, acode_exit, acode_ret, acode_block, ablock_normal, ablock_ret, ablock_self, aop_move, aop_assign, aop_box, obox_some, aop_fieldAddr, aop_load, oload_ep, aop_store, aop_bin, obin_lss, obin_add, aop_call, aop_len, aop_max, omax_int, List.length_set, getD_set_self, getD_set_ne, htm, h0, AV.cells?, field0, loadKind, obin_eql, hkb, acode_true, acode_false, field4, loadText, len9, obin_gtr, ht0, h1, field6, load27, olen_sl und27, hlen, h2] at hq
            subst hq
            exact ⟨_, _, rfl, by simp only [aop_un, oun_not, aops_if, aguard_tt, aguard_ff, aguard_tf, aguard_ft, aguard_un, gslot, gval_some, aop_pick, opick_true, opick_false, List.getElem?_toArray, List.getElem?_cons_succ, List.getElem?_cons_zero, Option.bind_some, goInt, conv, convA, conv1, List.toList_toArray, Option.get!_some, ne_eq, not_false_eq_true, decide_false, decide_true, Nat.reduceEqDiff, Nat.reduceLT, Option.map_some, List.map_cons, List.map_nil, aops_nil, aops_plain, astep_val, astep_skip, astep_pan, putA_some, putA_none, aval_tmp, aval_const, aval_func, abind_normal, abind_exit, abind_ret, abind_pan, acode_seq, acode_region, acode_skip, acode_exit, acode_ret, acode_block, ablock_normal, ablock_ret, ablock_self, aop_move, aop_assign, aop_box, obox_some, aop_fieldAddr, aop_load, oload_ep, aop_store, aop_bin, obin_lss, obin_add, aop_call, aop_len, aop_max, omax_int, List.length_set, getD_set_self, getD_set_ne, htm, VT.short, hk, if_true, h1, h2]; rfl⟩
          | false =>
            cases h3 : ns.any longName with
            | true =>
              rw [h3] at hcn
              simp only [aop_un, oun_not, aops_if, aguard_tt, aguard_ff, aguard_tf, aguard_ft, aguard_un, gslot, gval_some, aop_pick, opick_true, opick_false, List.getElem?_toArray, List.getElem?_cons_succ, List.getElem?_cons_zero, Option.bind_some, goInt, conv, convA, conv1, List.toList_toArray, Option.get!_some, ne_eq, not_false_eq_true, decide_false, decide_true, Nat.reduceEqDiff, Nat.reduceLT, Option.map_some, List.map_cons, List.map_nil, aops_nil, aops_plain, astep_val, astep_skip, astep_pan, putA_some, putA_none, aval_tmp, aval_const, aval_func, abind_normal, abind_exit, abind_ret, abind_pan, acode_seq, acode_region, acode_skip, acode_exit, acode_ret, acode_block, ablock_normal, ablock_ret, ablock_self, aop_move, aop_assign, aop_box, obox_some, aop_fieldAddr, aop_load, oload_ep, aop_store, aop_bin, obin_lss, obin_add, aop_call, aop_len, aop_max, omax_int, List.length_set, getD_set_self, getD_set_ne, htm, h0, AV.cells?, field0, loadKind, obin_eql, hkb, acode_true, acode_false, field4, loadText, len9, obin_gtr, ht0, h1, field6, load27, olen_sl und27, hlen, h2, field5, load26, ocall_fn code71, astep_enter hcn] at hq
              subst hq
              exact ⟨_, _, rfl, by simp only [aop_un, oun_not, aops_if, aguard_tt, aguard_ff, aguard_tf, aguard_ft, aguard_un, gslot, gval_some, aop_pick, opick_true, opick_false, List.getElem?_toArray, List.getElem?_cons_succ, List.getElem?_cons_zero, Option.bind_some, goInt, conv, convA, conv1, List.toList_toArray, Option.get!_some, ne_eq, not_false_eq_true, decide_false, decide_true, Nat.reduceEqDiff, Nat.reduceLT, Option.map_some, List.map_cons, List.map_nil, aops_nil, aops_plain, astep_val, astep_skip, astep_pan, putA_some, putA_none, aval_tmp, aval_const, aval_func, abind_normal, abind_exit, abind_ret, abind_pan, acode_seq, acode_region, acode_skip, acode_exit, acode_ret, acode_block, ablock_normal, ablock_ret, ablock_self, aop_move, aop_assign, aop_box, obox_some, aop_fieldAddr, aop_load, oload_ep, aop_store, aop_bin, obin_lss, obin_add, aop_call, aop_len, aop_max, omax_int, List.length_set, getD_set_self, getD_set_ne, htm, VT.short, hk, if_true, h1, h2, h3]; rfl⟩
            | false =>
              rw [h3] at hcn
              simp only [aop_un, oun_not, aops_if, aguard_tt, aguard_ff, aguard_tf, aguard_ft, aguard_un, gslot, gval_some, aop_pick, opick_true, opick_false, List.getElem?_toArray, List.getElem?_cons_succ, List.getElem?_cons_zero, Option.bind_some, goInt, conv, convA, conv1, List.toList_toArray, Option.get!_some, ne_eq, not_false_eq_true, decide_false, decide_true, Nat.reduceEqDiff, Nat.reduceLT, Option.map_some, List.map_cons, List.map_nil, aops_nil, aops_plain, astep_val, astep_skip, astep_pan, putA_some, putA_none, aval_tmp, aval_const, aval_func, abind_normal, abind_exit, abind_ret, abind_pan, acode_seq, acode_region, acode_skip, acode_exit, acode_ret, acode_block, ablock_normal, ablock_ret, ablock_self, aop_move, aop_assign, aop_box, obox_some, aop_fieldAddr, aop_load, oload_ep, aop_store, aop_bin, obin_lss, obin_add, aop_call, aop_len, aop_max, omax_int, List.length_set, getD_set_self, getD_set_ne, htm, h0, AV.cells?, field0, loadKind, obin_eql, hkb, acode_true, acode_false, field4, loadText, len9, obin_gtr, ht0, h1, field6, load27, olen_sl und27, hlen, h2, field5, load26, ocall_fn code71, astep_enter hcn, ocall_fn code69, astep_enter hcl] at hq
              subst hq
              exact ⟨_, _, rfl, by simp only [aop_un, oun_not, aops_if, aguard_tt, aguard_ff, aguard_tf, aguard_ft, aguard_un, gslot, gval_some, aop_pick, opick_true, opick_false, List.getElem?_toArray, List.getElem?_cons_succ, List.getElem?_cons_zero, Option.bind_some, goInt, conv, convA, conv1, List.toList_toArray, Option.get!_some, ne_eq, not_false_eq_true, decide_false, decide_true, Nat.reduceEqDiff, Nat.reduceLT, Option.map_some, List.map_cons, List.map_nil, aops_nil, aops_plain, astep_val, astep_skip, astep_pan, putA_some, putA_none, aval_tmp, aval_const, aval_func, abind_normal, abind_exit, abind_ret, abind_pan, acode_seq, acode_region, acode_skip, acode_exit, acode_ret, acode_block, ablock_normal, ablock_ret, ablock_self, aop_move, aop_assign, aop_box, obox_some, aop_fieldAddr, aop_load, oload_ep, aop_store, aop_bin, obin_lss, obin_add, aop_call, aop_len, aop_max, omax_int, List.length_set, getD_set_self, getD_set_ne, htm, VT.short, hk, if_true, h1, h2, h3, longL_any]; rfl⟩
      · have hkb : (k == (9 : Int)) = false := by simp [hk]
        have ht0 : decide ((t.size : Int) > 4096) = decide (t.size > 4096) := by simp; omega
        cases h1 : decide (t.size > 4096) with
        | true =>
          simp only [aop_un, oun_not, aops_if, aguard_tt, aguard_ff, aguard_tf, aguard_ft, aguard_un, gslot, gval_some, aop_pick, opick_true, opick_false, List.getElem?_toArray, List.getElem?_cons_succ, List.getElem?_cons_zero, Option.bind_some, goInt, conv, convA, conv1, List.toList_toArray, Option.get!_some, ne_eq, not_false_eq_true, decide_false, decide_true, Nat.reduceEqDiff, Nat.reduceLT, Option.map_some, List.map_cons, List.map_nil, aops_nil, aops_plain, astep_val, astep_skip, astep_pan, putA_some, putA_none, aval_tmp, aval_const, aval_func, abind_normal, abind_exit, abind_ret, abind_pan, acode_seq, acode_region, acode_skip, acode_exit, acode_ret, acode_block, ablock_normal, ablock_ret, ablock_self, aop_move, aop_assign, aop_box, obox_some, aop_fieldAddr, aop_load, oload_ep, aop_store, aop_bin, obin_lss, obin_add, aop_call, aop_len, aop_max, omax_int, List.length_set, getD_set_self, getD_set_ne, htm, h0, AV.cells?, field0, loadKind, obin_eql, hkb, acode_true, acode_false, field4, loadText, len9, obin_gtr, ht0, h1] at hq
          subst hq
          exact ⟨_, _, rfl, by simp only [aop_un, oun_not, aops_if, aguard_tt, aguard_ff, aguard_tf, aguard_ft, aguard_un, gslot, gval_some, aop_pick, opick_true, opick_false, List.getElem?_toArray, List.getElem?_cons_succ, List.getElem?_cons_zero, Option.bind_some, goInt, conv, convA, conv1, List.toList_toArray, Option.get!_some, ne_eq, not_false_eq_true, decide_false, decide_true, Nat.reduceEqDiff, Nat.reduceLT, Option.map_some, List.map_cons, List.map_nil, aops_nil, aops_plain, astep_val, astep_skip, astep_pan, putA_some, putA_none, aval_tmp, aval_const, aval_func, abind_normal, abind_exit, abind_ret, abind_pan, acode_seq, acode_region, acode_skip, acode_exit, acode_ret, acode_block, ablock_normal, ablock_ret, ablock_self, aop_move, aop_assign, aop_box, obox_some, aop_fieldAddr, aop_load, oload_ep, aop_store, aop_bin, obin_lss, obin_add, aop_call, aop_len, aop_max, omax_int, List.length_set, getD_set_self, getD_set_ne, htm, VT.short, hk, if_false, h1]; rfl⟩
        | false =>
          cases h2 : decide (l.length > 256) with
          | true =>
            simp only [aop_un, oun_not, aops_if, aguard_tt, aguard_ff, aguard_tf, aguard_ft, aguard_un, gslot, gval_some, aop_pick, opick_true, opick_false, List.getElem?_toArray, List.getElem?_cons_succ, List.getElem?_cons_zero, Option.bind_some, goInt, conv, convA, conv1, List.toList_toArray, Option.get!_some, ne_eq, not_false_eq_true, decide_false, decide_true, Nat.reduceEqDiff, Nat.reduceLT, Option.map_some, List.map_cons, List.map_nil, aops_nil, aops_plain, astep_val, astep_skip, astep_pan, putA_some, putA_none, aval_tmp, aval_const, aval_func, abind_normal, abind_exit, abind_ret, abind_pan, acode_seq, acode_region, acode_skip, acode_exit, acode_ret, acode_block, ablock_normal, ablock_ret, ablock_self, aop_move, aop_assign, aop_box, obox_some, aop_fieldAddr, aop_load, oload_ep, aop_store, aop_bin, obin_lss, obin_add, aop_call, aop_len, aop_max, omax_int, List.length_set, getD_set_self, getD_set_ne, htm, h0, AV.cells?, field0, loadKind, obin_eql, hkb, acode_true, acode_false, field4, loadText, len9, obin_gtr, ht0, h1, field6, load27, olen_sl und27, hlen, h2] at hq
            subst hq
            exact ⟨_, _, rfl, by simp only [aop_un, oun_not, aops_if, aguard_tt, aguard_ff, aguard_tf, aguard_ft, aguard_un, gslot, gval_some, aop_pick, opick_true, opick_false, List.getElem?_toArray, List.getElem?_cons_succ, List.getElem?_cons_zero, Option.bind_some, goInt, conv, convA, conv1, List.toList_toArray, Option.get!_some, ne_eq, not_false_eq_true, decide_false, decide_true, Nat.reduceEqDiff, Nat.reduceLT, Option.map_some, List.map_cons, List.map_nil, aops_nil, aops_plain, astep_val, astep_skip, astep_pan, putA_some, putA_none, aval_tmp, aval_const, aval_func, abind_normal, abind_exit, abind_ret, abind_pan, acode_seq, acode_region, acode_skip, acode_exit, acode_ret, acode_block, ablock_normal, ablock_ret, ablock_self, aop_move, aop_assign, aop_box, obox_some, aop_fieldAddr, aop_load, oload_ep, aop_store, aop_bin, obin_lss, obin_add, aop_call, aop_len, aop_max, omax_int, List.length_set, getD_set_self, getD_set_ne, htm, VT.short, hk, if_false, h1, h2]; rfl⟩
          | false =>
            cases h3 : ns.any longName with
            | true =>
              rw [h3] at hcn
              simp only [aop_un, oun_not, aops_if, aguard_tt, aguard_ff, aguard_tf, aguard_ft, aguard_un, gslot, gval_some, aop_pick, opick_true, opick_false, List.getElem?_toArray, List.getElem?_cons_succ, List.getElem?_cons_zero, Option.bind_some, goInt, conv, convA, conv1, List.toList_toArray, Option.get!_some, ne_eq, not_false_eq_true, decide_false, decide_true, Nat.reduceEqDiff, Nat.reduceLT, Option.map_some, List.map_cons, List.map_nil, aops_nil, aops_plain, astep_val, astep_skip, astep_pan, putA_some, putA_none, aval_tmp, aval_const, aval_func, abind_normal, abind_exit, abind_ret, abind_pan, acode_seq, acode_region, acode_skip, acode_exit, acode_ret, acode_block, ablock_normal, ablock_ret, ablock_self, aop_move, aop_assign, aop_box, obox_some, aop_fieldAddr, aop_load, oload_ep, aop_store, aop_bin, obin_lss, obin_add, aop_call, aop_len, aop_max, omax_int, List.length_set, getD_set_self, getD_set_ne, htm, h0, AV.cells?, field0, loadKind, obin_eql, hkb, acode_true, acode_false, field4, loadText, len9, obin_gtr, ht0, h1, field6, load27, olen_sl und27, hlen, h2, field5, load26, ocall_fn code71, astep_enter hcn] at hq
              subst hq
              exact ⟨_, _, rfl, by simp only [aop_un, oun_not, aops_if, aguard_tt, aguard_ff, aguard_tf, aguard_ft, aguard_un, gslot, gval_some, aop_pick, opick_true, opick_false, List.getElem?_toArray, List.getElem?_cons_succ, List.getElem?_cons_zero, Option.bind_some, goInt, conv, convA, conv1, List.toList_toArray, Option.get!_some, ne_eq, not_false_eq_true, decide_false, decide_true, Nat.reduceEqDiff, Nat.reduceLT, Option.map_some, List.map_cons, List.map_nil, aops_nil, aops_plain, astep_val, astep_skip, astep_pan, putA_some, putA_none, aval_tmp, aval_const, aval_func, abind_normal, abind_exit, abind_ret, abind_pan, acode_seq, acode_region, acode_skip, acode_exit, acode_ret, acode_block, ablock_normal, ablock_ret, ablock_self, aop_move, aop_assign, aop_box, obox_some, aop_fieldAddr, aop_load, oload_ep, aop_store, aop_bin, obin_lss, obin_add, aop_call, aop_len, aop_max, omax_int, List.length_set, getD_set_self, getD_set_ne, htm, VT.short, hk, if_false, h1, h2, h3]; rfl⟩
            | false =>
              rw [h3] at hcn
              simp only [aop_un, oun_not, aops_if, aguard_tt, aguard_ff, aguard_tf, aguard_ft, aguard_un, gslot, gval_some, aop_pick, opick_true, opick_false, List.getElem?_toArray, List.getElem?_cons_succ, List.getElem?_cons_zero, Option.bind_some, goInt, conv, convA, conv1, List.toList_toArray, Option.get!_some, ne_eq, not_false_eq_true, decide_false, decide_true, Nat.reduceEqDiff, Nat.reduceLT, Option.map_some, List.map_cons, List.map_nil, aops_nil, aops_plain, astep_val, astep_skip, astep_pan, putA_some, putA_none, aval_tmp, aval_const, aval_func, abind_normal, abind_exit, abind_ret, abind_pan, acode_seq, acode_region, acode_skip, acode_exit, acode_ret, acode_block, ablock_normal, ablock_ret, ablock_self, aop_move, aop_assign, aop_box, obox_some, aop_fieldAddr, aop_load, oload_ep, aop_store, aop_bin, obin_lss, obin_add, aop_call, aop_len, aop_max, omax_int, List.length_set, getD_set_self, getD_set_ne, htm, h0, AV.cells?, field0, loadKind, obin_eql, hkb, acode_true, acode_false, field4, loadText, len9, obin_gtr, ht0, h1, field6, load27, olen_sl und27, hlen, h2, field5, load26, ocall_fn code71, astep_enter hcn, ocall_fn code69, astep_enter hcl] at hq
              subst hq
              exact ⟨_, _, rfl, by simp only [aop_un, oun_not, aops_if, aguard_tt, aguard_ff, aguard_tf, aguard_ft, aguard_un, gslot, gval_some, aop_pick, opick_true, opick_false, List.getElem?_toArray, List.getElem?_cons_succ, List.getElem?_cons_zero, Option.bind_some, goInt, conv, convA, conv1, List.toList_toArray, Option.get!_some, ne_eq, not_false_eq_true, decide_false, decide_true, Nat.reduceEqDiff, Nat.reduceLT, Option.map_some, List.map_cons, List.map_nil, aops_nil, aops_plain, astep_val, astep_skip, astep_pan, putA_some, putA_none, aval_tmp, aval_const, aval_func, abind_normal, abind_exit, abind_ret, abind_pan, acode_seq, acode_region, acode_skip, acode_exit, acode_ret, acode_block, ablock_normal, ablock_ret, ablock_self, aop_move, aop_assign, aop_box, obox_some, aop_fieldAddr, aop_load, oload_ep, aop_store, aop_bin, obin_lss, obin_add, aop_call, aop_len, aop_max, omax_int, List.length_set, getD_set_self, getD_set_ne, htm, VT.short, hk, if_false, h1, h2, h3, longL_any]; rfl⟩
    rw [acall_ret1 h34 code34 (t := 2) rfl (by rw [hc]; exact hx), ht, gc_all hH rfl]

end Go.AI.Jx
end
section
set_option linter.all false
namespace Go.AI.Jx
open Go Go.Proofs

theorem code67 : E.code 67 = some (Tryz.f67, (Tryz.f67.body).get!) := by kernel_rfl
theorem code68 : E.code 68 = some (Tryz.f68, (Tryz.f68.body).get!) := by kernel_rfl
theorem code108 : E.code 108 = some (Tryz.f108, (Tryz.f108.body).get!) := by kernel_rfl

/-- What utf8.ValidString is said to give. -/
def ValidOk (orc : Orc) (valid : ByteArray → Bool) : Prop := ∀ n s H, s.size ≤ 2 ^ 46 → acall E orc (n + 1) 108 [.v (.string s)] H = some (.ret (.v (.bool (valid s))), H)

theorem valid67 {orc : Orc} {valid : ByteArray → Bool} (h67 : orc 67 = none) (hV : ValidOk orc valid) (n : Nat) (H : Heap) (hH : OkH H) (s : ByteArray) (hsz : s.size ≤ 2 ^ 46) : acall E orc (n + 2) 67 [.v (.string s)] H = some (.ret (.v (.bool (valid s))), H) := by
  have hs := hV n s H hsz
  generalize hc : acall E orc (n + 1) = call at hs
  obtain ⟨tm, hx, ht⟩ : ∃ (tm : List AV), acode E call (n + 1) (Tryz.f67.body.get!) (aframe E Tryz.f67 [.v (.string s)] H) = some (.ret, ⟨tm, [], H⟩) ∧ tm.getD 2 (.v undef) = .v (.bool (valid s)) := by
    obtain ⟨tm0, htm, h0, hfr⟩ : ∃ tm0 : List AV, tm0.length = 5 ∧ tm0.getD 0 (.v undef) = .v (.string s) ∧ aframe E Tryz.f67 [.v (.string s)] H = ⟨tm0, [], H⟩ := ⟨_, rfl, rfl, rfl⟩
    rw [hfr]
    generalize hq : acode E call (n + 1) (Tryz.f67.body.get!) ⟨tm0, [], H⟩ = q
    simp [Tryz.f67] at hq
    simp only [aop_lookup, aop_update, aop_makeMap, aop_un, oun_not, aops_if, aguard_tt, aguard_ff, aguard_tf, aguard_ft, aguard_un, gslot, gval_some, aop_pick, opick_true, opick_false, List.getElem?_toArray, List.getElem?_cons_succ, List.getElem?_cons_zero, Option.bind_some, goInt, conv, convA, conv1, List.toList_toArray, Option.get!_some, ne_eq, not_false_eq_true, decide_false, decide_true, Nat.reduceEqDiff, Nat.reduceLT, Option.map_some, List.map_cons, List.map_nil, aops_nil, aops_plain, astep_val, astep_skip, astep_pan, putA_some, putA_none, aval_tmp, aval_const, aval_func, abind_normal, abind_exit, abind_ret, abind_pan, acode_seq, acode_region, acode_skip, acode_exit, acode_ret, acode_block, ablock_normal, ablock_ret, ablock_self, aop_move, aop_assign, aop_box, obox_some, aop_fieldAddr, aop_load, oload_ep, aop_store, aop_bin, obin_lss, obin_add, aop_call, aop_len, aop_max, omax_int, List.length_set, getD_set_self, getD_set_ne, htm, h0, ocall_fn code108, astep_enter hs] at hq
    subst hq
    exact ⟨_, rfl, by simp only [aop_lookup, aop_update, aop_makeMap, aop_un, oun_not, aops_if, aguard_tt, aguard_ff, aguard_tf, aguard_ft, aguard_un, gslot, gval_some, aop_pick, opick_true, opick_false, List.getElem?_toArray, List.getElem?_cons_succ, List.getElem?_cons_zero, Option.bind_some, goInt, conv, convA, conv1, List.toList_toArray, Option.get!_some, ne_eq, not_false_eq_true, decide_false, decide_true, Nat.reduceEqDiff, Nat.reduceLT, Option.map_some, List.map_cons, List.map_nil, aops_nil, aops_plain, astep_val, astep_skip, astep_pan, putA_some, putA_none, aval_tmp, aval_const, aval_func, abind_normal, abind_exit, abind_ret, abind_pan, acode_seq, acode_region, acode_skip, acode_exit, acode_ret, acode_block, ablock_normal, ablock_ret, ablock_self, aop_move, aop_assign, aop_box, obox_some, aop_fieldAddr, aop_load, oload_ep, aop_store, aop_bin, obin_lss, obin_add, aop_call, aop_len, aop_max, omax_int, List.length_set, getD_set_self, getD_set_ne, htm]⟩
  have := gc_all (ext := []) (x := .v (.bool (valid s))) hH rfl
  rw [List.append_nil] at this
  rw [acall_ret1 h67 code67 (t := 2) rfl (by rw [hc]; exact hx), ht, this]

def mapOf (seen : List ByteArray) : List (Value × AV) := seen.map fun s => (.string s, .v (.bool true))
def hasB (s : ByteArray) (seen : List ByteArray) : Bool := seen.any fun y => s == y

theorem find_mapOf (s : ByteArray) : ∀ (seen : List ByteArray) (i : Nat), ∃ r, findKeyA (.string s) (mapOf seen) i = some r ∧ (hasB s seen = true → ∃ j, r = some (j, .v (.bool true))) ∧ (hasB s seen = false → r = none)
  | [], i => ⟨none, rfl, fun h => by simp [hasB] at h, fun _ => rfl⟩
  | y :: ys, i => by
    obtain ⟨r, h1, h2, h3⟩ := find_mapOf s ys (i + 1)
    cases hy : s == y with
    | true =>
      refine ⟨some (i, .v (.bool true)), ?_, fun _ => ⟨i, rfl⟩, fun h => by simp [hasB, hy] at h⟩
      simp [mapOf, findKeyA, keyEq, hy]
    | false =>
      refine ⟨r, ?_, fun h => h2 (by simpa [hasB, hy] using h), fun h => h3 (by simpa [hasB, hy] using h)⟩
      have : findKeyA (.string s) (mapOf (y :: ys)) i = findKeyA (.string s) (mapOf ys) (i + 1) := by simp [mapOf, findKeyA, keyEq, hy]
      rw [this, h1]

theorem und100 : ∃ kt et, E.P.underlying 100 = some (.map kt et) ∧ E.P.underlying kt = some .string ∧ zeroT E.P et = some (.bool false) := ⟨9, 4, by kernel_rfl, by kernel_rfl, by kernel_rfl⟩

theorem look100 {H : Heap} {s : ByteArray} {seen : List ByteArray} : olookup E.P 100 (H ++ [.map (mapOf seen)]) (.mp H.length) (.v (.string s)) false = some (.val (.v (.bool (hasB s seen))), H ++ [.map (mapOf seen)]) := by
  obtain ⟨kt, et, h1, h2, h3⟩ := und100
  obtain ⟨r, f1, f2, f3⟩ := find_mapOf s seen 0
  cases hb : hasB s seen with
  | true =>
    obtain ⟨j, rfl⟩ := f2 hb
    simp [olookup, h1, h2, h3, AV.un, keyKind, f1]
  | false =>
    have := f3 hb
    subst this
    simp [olookup, h1, h2, h3, AV.un, keyKind, f1, conv, convA, conv1]

theorem upd100 {H : Heap} {s : ByteArray} {seen : List ByteArray} (hb : hasB s seen = false) : oupdate E.P 100 (H ++ [.map (mapOf seen)]) (.mp H.length) (.v (.string s)) (.v (.bool true)) = some (.skip, H ++ [.map (mapOf (seen ++ [s]))]) := by
  obtain ⟨kt, et, h1, h2, h3⟩ := und100
  obtain ⟨r, f1, f2, f3⟩ := find_mapOf s seen 0
  have := f3 hb
  subst this
  have hm : mapOf (seen ++ [s]) = mapOf seen ++ [(.string s, .v (.bool true))] := by simp [mapOf]
  rw [hm]
  simp [oupdate, h1, h2, AV.un, keyKind, f1]

theorem okH_map {H : Heap} (h : OkH H) (seen : List ByteArray) : OkH (H ++ [.map (mapOf seen)]) := by
  refine okH_push h ?_
  simp only [AObj.under]
  refine underL_mono (Nat.zero_le _) _ ?_
  induction seen with
  | nil => rfl
  | cons s r ih => simpa [mapOf, AV.underL, AV.under] using ih

def namesB (valid : ByteArray → Bool) : List ByteArray → List ByteArray → Bool
  | _, [] => true
  | seen, s :: r => !hasB s seen && valid s && namesB valid (seen ++ [s]) r

noncomputable def body68 : Code := sub [1, 1, 0, 1, 0, 0] ((Tryz.f68.body).get!)

theorem names_loop (call : CallFn) (n : Nat) (valid : ByteArray → Bool) (ns : List ByteArray) (H : Heap) (hH : OkH H) (hcall : ∀ s ∈ ns, ∀ H, OkH H → call 67 [.v (.string s)] H = some (.ret (.v (.bool (valid s))), H)) (hl : ns.length < 2 ^ 40) : ∀ (q i : Nat) (seen : List ByteArray) (tm : List AV), tm.length = 24 →
    tm.getD 3 (.v undef) = .mp H.length → tm.getD 7 (.v undef) = .sl ns.length (namesA ns) → tm.getD 8 (.v undef) = .v (.int .i64 ns.length) → tm.getD 9 (.v undef) = .v (.int .i64 i) → ns.length - i < q → i ≤ ns.length →
    ∃ (tm' : List AV) (seen' : List ByteArray), aloop (acode E call n body68) q ⟨tm, [], H ++ [.map (mapOf seen)]⟩ = some (if namesB valid seen (ns.drop i) = true then .exit 0 else .ret, ⟨tm', [], H ++ [.map (mapOf seen')]⟩) ∧ tm'.length = 24 ∧ (namesB valid seen (ns.drop i) = false → tm'.getD 2 (.v undef) = .v (.bool false))
  | 0, i, seen, tm, _, _, _, _, _, h, _ => by omega
  | q + 1, i, seen, tm, htm, h3, h7, h8, h9, hk, hi => by
    rw [aloop_succ]
    generalize hq : acode E call n body68 ⟨tm, [], H ++ [.map (mapOf seen)]⟩ = r
    simp [body68, sub, Tryz.f68] at hq
    by_cases hlt : i < ns.length
    · obtain ⟨x, hx⟩ : ∃ x, ns[i]? = some x := ⟨ns[i], List.getElem?_eq_getElem hlt⟩
      obtain ⟨hi', hxe⟩ := List.getElem?_eq_some_iff.1 hx
      have hmx : namesB valid seen (ns.drop i) = (!hasB x seen && valid x && namesB valid (seen ++ [x]) (ns.drop (i + 1))) := by rw [List.drop_eq_getElem_cons hi', hxe]; rfl
      have hw : IntKind.i64.wrap ((i : Int) + 1) = ((i + 1 : Nat) : Int) := by rw [i64_wrap (by omega) (by omega)]; omega
      have hcx := hcall x (List.mem_of_getElem? hx) _ (okH_map hH seen)
      cases hb : hasB x seen with
      | true =>
        simp only [aop_lookup, aop_update, aop_makeMap, aop_un, oun_not, aops_if, aguard_tt, aguard_ff, aguard_tf, aguard_ft, aguard_un, gslot, gval_some, aop_pick, opick_true, opick_false, List.getElem?_toArray, List.getElem?_cons_succ, List.getElem?_cons_zero, Option.bind_some, goInt, conv, convA, conv1, List.toList_toArray, Option.get!_some, ne_eq, not_false_eq_true, decide_false, decide_true, Nat.reduceEqDiff, Nat.reduceLT, Option.map_some, List.map_cons, List.map_nil, aops_nil, aops_plain, astep_val, astep_skip, astep_pan, putA_some, putA_none, aval_tmp, aval_const, aval_func, abind_normal, abind_exit, abind_ret, abind_pan, acode_seq, acode_region, acode_skip, acode_exit, acode_ret, acode_block, ablock_normal, ablock_ret, ablock_self, aop_move, aop_assign, aop_box, obox_some, aop_fieldAddr, aop_load, oload_ep, aop_store, aop_bin, obin_lss, obin_add, aop_call, aop_len, aop_max, omax_int, List.length_set, getD_set_self, getD_set_ne, htm, h3, h7, h8, h9, Int.ofNat_lt, hlt, acode_true, acode_false, aop_index und26, idx26 hlt, load9_ep hx, look100, hb] at hq
        subst hq
        exact ⟨_, seen, by rw [hmx, hb]; rfl, by simp only [aop_lookup, aop_update, aop_makeMap, aop_un, oun_not, aops_if, aguard_tt, aguard_ff, aguard_tf, aguard_ft, aguard_un, gslot, gval_some, aop_pick, opick_true, opick_false, List.getElem?_toArray, List.getElem?_cons_succ, List.getElem?_cons_zero, Option.bind_some, goInt, conv, convA, conv1, List.toList_toArray, Option.get!_some, ne_eq, not_false_eq_true, decide_false, decide_true, Nat.reduceEqDiff, Nat.reduceLT, Option.map_some, List.map_cons, List.map_nil, aops_nil, aops_plain, astep_val, astep_skip, astep_pan, putA_some, putA_none, aval_tmp, aval_const, aval_func, abind_normal, abind_exit, abind_ret, abind_pan, acode_seq, acode_region, acode_skip, acode_exit, acode_ret, acode_block, ablock_normal, ablock_ret, ablock_self, aop_move, aop_assign, aop_box, obox_some, aop_fieldAddr, aop_load, oload_ep, aop_store, aop_bin, obin_lss, obin_add, aop_call, aop_len, aop_max, omax_int, List.length_set, getD_set_self, getD_set_ne, htm], fun _ => by simp only [aop_lookup, aop_update, aop_makeMap, aop_un, oun_not, aops_if, aguard_tt, aguard_ff, aguard_tf, aguard_ft, aguard_un, gslot, gval_some, aop_pick, opick_true, opick_false, List.getElem?_toArray, List.getElem?_cons_succ, List.getElem?_cons_zero, Option.bind_some, goInt, conv, convA, conv1, List.toList_toArray, Option.get!_some, ne_eq, not_false_eq_true, decide_false, decide_true, Nat.reduceEqDiff, Nat.reduceLT, Option.map_some, List.map_cons, List.map_nil, aops_nil, aops_plain, astep_val, astep_skip, astep_pan, putA_some, putA_none, aval_tmp, aval_const, aval_func, abind_normal, abind_exit, abind_ret, abind_pan, acode_seq, acode_region, acode_skip, acode_exit, acode_ret, acode_block, ablock_normal, ablock_ret, ablock_self, aop_move, aop_assign, aop_box, obox_some, aop_fieldAddr, aop_load, oload_ep, aop_store, aop_bin, obin_lss, obin_add, aop_call, aop_len, aop_max, omax_int, List.length_set, getD_set_self, getD_set_ne, htm]⟩
      | false =>
        cases hv : valid x with
        | false =>
          rw [hv] at hcx
          simp only [aop_lookup, aop_update, aop_makeMap, aop_un, oun_not, aops_if, aguard_tt, aguard_ff, aguard_tf, aguard_ft, aguard_un, gslot, gval_some, aop_pick, opick_true, opick_false, List.getElem?_toArray, List.getElem?_cons_succ, List.getElem?_cons_zero, Option.bind_some, goInt, conv, convA, conv1, List.toList_toArray, Option.get!_some, ne_eq, not_false_eq_true, decide_false, decide_true, Nat.reduceEqDiff, Nat.reduceLT, Option.map_some, List.map_cons, List.map_nil, aops_nil, aops_plain, astep_val, astep_skip, astep_pan, putA_some, putA_none, aval_tmp, aval_const, aval_func, abind_normal, abind_exit, abind_ret, abind_pan, acode_seq, acode_region, acode_skip, acode_exit, acode_ret, acode_block, ablock_normal, ablock_ret, ablock_self, aop_move, aop_assign, aop_box, obox_some, aop_fieldAddr, aop_load, oload_ep, aop_store, aop_bin, obin_lss, obin_add, aop_call, aop_len, aop_max, omax_int, List.length_set, getD_set_self, getD_set_ne, htm, h3, h7, h8, h9, Int.ofNat_lt, hlt, acode_true, acode_false, aop_index und26, idx26 hlt, load9_ep hx, look100, hb, ocall_fn code67, astep_enter hcx, Bool.not_false] at hq
          subst hq
          exact ⟨_, seen, by rw [hmx, hb, hv]; rfl, by simp only [aop_lookup, aop_update, aop_makeMap, aop_un, oun_not, aops_if, aguard_tt, aguard_ff, aguard_tf, aguard_ft, aguard_un, gslot, gval_some, aop_pick, opick_true, opick_false, List.getElem?_toArray, List.getElem?_cons_succ, List.getElem?_cons_zero, Option.bind_some, goInt, conv, convA, conv1, List.toList_toArray, Option.get!_some, ne_eq, not_false_eq_true, decide_false, decide_true, Nat.reduceEqDiff, Nat.reduceLT, Option.map_some, List.map_cons, List.map_nil, aops_nil, aops_plain, astep_val, astep_skip, astep_pan, putA_some, putA_none, aval_tmp, aval_const, aval_func, abind_normal, abind_exit, abind_ret, abind_pan, acode_seq, acode_region, acode_skip, acode_exit, acode_ret, acode_block, ablock_normal, ablock_ret, ablock_self, aop_move, aop_assign, aop_box, obox_some, aop_fieldAddr, aop_load, oload_ep, aop_store, aop_bin, obin_lss, obin_add, aop_call, aop_len, aop_max, omax_int, List.length_set, getD_set_self, getD_set_ne, htm], fun _ => by simp only [aop_lookup, aop_update, aop_makeMap, aop_un, oun_not, aops_if, aguard_tt, aguard_ff, aguard_tf, aguard_ft, aguard_un, gslot, gval_some, aop_pick, opick_true, opick_false, List.getElem?_toArray, List.getElem?_cons_succ, List.getElem?_cons_zero, Option.bind_some, goInt, conv, convA, conv1, List.toList_toArray, Option.get!_some, ne_eq, not_false_eq_true, decide_false, decide_true, Nat.reduceEqDiff, Nat.reduceLT, Option.map_some, List.map_cons, List.map_nil, aops_nil, aops_plain, astep_val, astep_skip, astep_pan, putA_some, putA_none, aval_tmp, aval_const, aval_func, abind_normal, abind_exit, abind_ret, abind_pan, acode_seq, acode_region, acode_skip, acode_exit, acode_ret, acode_block, ablock_normal, ablock_ret, ablock_self, aop_move, aop_assign, aop_box, obox_some, aop_fieldAddr, aop_load, oload_ep, aop_store, aop_bin, obin_lss, obin_add, aop_call, aop_len, aop_max, omax_int, List.length_set, getD_set_self, getD_set_ne, htm]⟩
        | true =>
          rw [hv] at hcx
          simp only [aop_lookup, aop_update, aop_makeMap, aop_un, oun_not, aops_if, aguard_tt, aguard_ff, aguard_tf, aguard_ft, aguard_un, gslot, gval_some, aop_pick, opick_true, opick_false, List.getElem?_toArray, List.getElem?_cons_succ, List.getElem?_cons_zero, Option.bind_some, goInt, conv, convA, conv1, List.toList_toArray, Option.get!_some, ne_eq, not_false_eq_true, decide_false, decide_true, Nat.reduceEqDiff, Nat.reduceLT, Option.map_some, List.map_cons, List.map_nil, aops_nil, aops_plain, astep_val, astep_skip, astep_pan, putA_some, putA_none, aval_tmp, aval_const, aval_func, abind_normal, abind_exit, abind_ret, abind_pan, acode_seq, acode_region, acode_skip, acode_exit, acode_ret, acode_block, ablock_normal, ablock_ret, ablock_self, aop_move, aop_assign, aop_box, obox_some, aop_fieldAddr, aop_load, oload_ep, aop_store, aop_bin, obin_lss, obin_add, aop_call, aop_len, aop_max, omax_int, List.length_set, getD_set_self, getD_set_ne, htm, h3, h7, h8, h9, Int.ofNat_lt, hlt, acode_true, acode_false, aop_index und26, idx26 hlt, load9_ep hx, look100, hb, ocall_fn code67, astep_enter hcx, Bool.not_true, upd100 hb, hw] at hq
          subst hq
          rw [abind_normal, hmx, hb, hv]
          simp only [Bool.not_false, Bool.true_and]
          refine names_loop call n valid ns H hH hcall hl q (i + 1) (seen ++ [x]) _ ?_ ?_ ?_ ?_ ?_ (by omega) (by omega)
          · simp only [aop_lookup, aop_update, aop_makeMap, aop_un, oun_not, aops_if, aguard_tt, aguard_ff, aguard_tf, aguard_ft, aguard_un, gslot, gval_some, aop_pick, opick_true, opick_false, List.getElem?_toArray, List.getElem?_cons_succ, List.getElem?_cons_zero, Option.bind_some, goInt, conv, convA, conv1, List.toList_toArray, Option.get!_some, ne_eq, not_false_eq_true, decide_false, decide_true, Nat.reduceEqDiff, Nat.reduceLT, Option.map_some, List.map_cons, List.map_nil, aops_nil, aops_plain, astep_val, astep_skip, astep_pan, putA_some, putA_none, aval_tmp, aval_const, aval_func, abind_normal, abind_exit, abind_ret, abind_pan, acode_seq, acode_region, acode_skip, acode_exit, acode_ret, acode_block, ablock_normal, ablock_ret, ablock_self, aop_move, aop_assign, aop_box, obox_some, aop_fieldAddr, aop_load, oload_ep, aop_store, aop_bin, obin_lss, obin_add, aop_call, aop_len, aop_max, omax_int, List.length_set, getD_set_self, getD_set_ne, htm]
          · simp only [aop_lookup, aop_update, aop_makeMap, aop_un, oun_not, aops_if, aguard_tt, aguard_ff, aguard_tf, aguard_ft, aguard_un, gslot, gval_some, aop_pick, opick_true, opick_false, List.getElem?_toArray, List.getElem?_cons_succ, List.getElem?_cons_zero, Option.bind_some, goInt, conv, convA, conv1, List.toList_toArray, Option.get!_some, ne_eq, not_false_eq_true, decide_false, decide_true, Nat.reduceEqDiff, Nat.reduceLT, Option.map_some, List.map_cons, List.map_nil, aops_nil, aops_plain, astep_val, astep_skip, astep_pan, putA_some, putA_none, aval_tmp, aval_const, aval_func, abind_normal, abind_exit, abind_ret, abind_pan, acode_seq, acode_region, acode_skip, acode_exit, acode_ret, acode_block, ablock_normal, ablock_ret, ablock_self, aop_move, aop_assign, aop_box, obox_some, aop_fieldAddr, aop_load, oload_ep, aop_store, aop_bin, obin_lss, obin_add, aop_call, aop_len, aop_max, omax_int, List.length_set, getD_set_self, getD_set_ne, htm, h3]
          · simp only [aop_lookup, aop_update, aop_makeMap, aop_un, oun_not, aops_if, aguard_tt, aguard_ff, aguard_tf, aguard_ft, aguard_un, gslot, gval_some, aop_pick, opick_true, opick_false, List.getElem?_toArray, List.getElem?_cons_succ, List.getElem?_cons_zero, Option.bind_some, goInt, conv, convA, conv1, List.toList_toArray, Option.get!_some, ne_eq, not_false_eq_true, decide_false, decide_true, Nat.reduceEqDiff, Nat.reduceLT, Option.map_some, List.map_cons, List.map_nil, aops_nil, aops_plain, astep_val, astep_skip, astep_pan, putA_some, putA_none, aval_tmp, aval_const, aval_func, abind_normal, abind_exit, abind_ret, abind_pan, acode_seq, acode_region, acode_skip, acode_exit, acode_ret, acode_block, ablock_normal, ablock_ret, ablock_self, aop_move, aop_assign, aop_box, obox_some, aop_fieldAddr, aop_load, oload_ep, aop_store, aop_bin, obin_lss, obin_add, aop_call, aop_len, aop_max, omax_int, List.length_set, getD_set_self, getD_set_ne, htm, h7]
          · simp only [aop_lookup, aop_update, aop_makeMap, aop_un, oun_not, aops_if, aguard_tt, aguard_ff, aguard_tf, aguard_ft, aguard_un, gslot, gval_some, aop_pick, opick_true, opick_false, List.getElem?_toArray, List.getElem?_cons_succ, List.getElem?_cons_zero, Option.bind_some, goInt, conv, convA, conv1, List.toList_toArray, Option.get!_some, ne_eq, not_false_eq_true, decide_false, decide_true, Nat.reduceEqDiff, Nat.reduceLT, Option.map_some, List.map_cons, List.map_nil, aops_nil, aops_plain, astep_val, astep_skip, astep_pan, putA_some, putA_none, aval_tmp, aval_const, aval_func, abind_normal, abind_exit, abind_ret, abind_pan, acode_seq, acode_region, acode_skip, acode_exit, acode_ret, acode_block, ablock_normal, ablock_ret, ablock_self, aop_move, aop_assign, aop_box, obox_some, aop_fieldAddr, aop_load, oload_ep, aop_store, aop_bin, obin_lss, obin_add, aop_call, aop_len, aop_max, omax_int, List.length_set, getD_set_self, getD_set_ne, htm, h8]
          · simp only [aop_lookup, aop_update, aop_makeMap, aop_un, oun_not, aops_if, aguard_tt, aguard_ff, aguard_tf, aguard_ft, aguard_un, gslot, gval_some, aop_pick, opick_true, opick_false, List.getElem?_toArray, List.getElem?_cons_succ, List.getElem?_cons_zero, Option.bind_some, goInt, conv, convA, conv1, List.toList_toArray, Option.get!_some, ne_eq, not_false_eq_true, decide_false, decide_true, Nat.reduceEqDiff, Nat.reduceLT, Option.map_some, List.map_cons, List.map_nil, aops_nil, aops_plain, astep_val, astep_skip, astep_pan, putA_some, putA_none, aval_tmp, aval_const, aval_func, abind_normal, abind_exit, abind_ret, abind_pan, acode_seq, acode_region, acode_skip, acode_exit, acode_ret, acode_block, ablock_normal, ablock_ret, ablock_self, aop_move, aop_assign, aop_box, obox_some, aop_fieldAddr, aop_load, oload_ep, aop_store, aop_bin, obin_lss, obin_add, aop_call, aop_len, aop_max, omax_int, List.length_set, getD_set_self, getD_set_ne, htm]
    · have : i = ns.length := by omega
      subst this
      simp only [aop_lookup, aop_update, aop_makeMap, aop_un, oun_not, aops_if, aguard_tt, aguard_ff, aguard_tf, aguard_ft, aguard_un, gslot, gval_some, aop_pick, opick_true, opick_false, List.getElem?_toArray, List.getElem?_cons_succ, List.getElem?_cons_zero, Option.bind_some, goInt, conv, convA, conv1, List.toList_toArray, Option.get!_some, ne_eq, not_false_eq_true, decide_false, decide_true, Nat.reduceEqDiff, Nat.reduceLT, Option.map_some, List.map_cons, List.map_nil, aops_nil, aops_plain, astep_val, astep_skip, astep_pan, putA_some, putA_none, aval_tmp, aval_const, aval_func, abind_normal, abind_exit, abind_ret, abind_pan, acode_seq, acode_region, acode_skip, acode_exit, acode_ret, acode_block, ablock_normal, ablock_ret, ablock_self, aop_move, aop_assign, aop_box, obox_some, aop_fieldAddr, aop_load, oload_ep, aop_store, aop_bin, obin_lss, obin_add, aop_call, aop_len, aop_max, omax_int, List.length_set, getD_set_self, getD_set_ne, htm, h3, h7, h8, h9, Int.lt_irrefl, acode_true, acode_false] at hq
      subst hq
      exact ⟨_, seen, by rw [List.drop_length]; rfl, by simp only [aop_lookup, aop_update, aop_makeMap, aop_un, oun_not, aops_if, aguard_tt, aguard_ff, aguard_tf, aguard_ft, aguard_un, gslot, gval_some, aop_pick, opick_true, opick_false, List.getElem?_toArray, List.getElem?_cons_succ, List.getElem?_cons_zero, Option.bind_some, goInt, conv, convA, conv1, List.toList_toArray, Option.get!_some, ne_eq, not_false_eq_true, decide_false, decide_true, Nat.reduceEqDiff, Nat.reduceLT, Option.map_some, List.map_cons, List.map_nil, aops_nil, aops_plain, astep_val, astep_skip, astep_pan, putA_some, putA_none, aval_tmp, aval_const, aval_func, abind_normal, abind_exit, abind_ret, abind_pan, acode_seq, acode_region, acode_skip, acode_exit, acode_ret, acode_block, ablock_normal, ablock_ret, ablock_self, aop_move, aop_assign, aop_box, obox_some, aop_fieldAddr, aop_load, oload_ep, aop_store, aop_bin, obin_lss, obin_add, aop_call, aop_len, aop_max, omax_int, List.length_set, getD_set_self, getD_set_ne, htm], fun h => by rw [List.drop_length] at h; cases h⟩

theorem names_ok {orc : Orc} {valid : ByteArray → Bool} (h67 : orc 67 = none) (h68 : orc 68 = none) (hV : ValidOk orc valid) (ns : List ByteArray) (hl : ns.length < 2 ^ 40) (n : Nat) (hn : ns.length < n) (H : Heap) (hH : OkH H) (hsz : ∀ s ∈ ns, s.size ≤ 2 ^ 46) :
    acall E orc (n + 3) 68 [.sl ns.length (namesA ns)] H = some (.ret (.v (.bool (namesB valid [] ns))), H) := by
  have hcall : ∀ s ∈ ns, ∀ H, OkH H → acall E orc (n + 2) 67 [.v (.string s)] H = some (.ret (.v (.bool (valid s))), H) := fun s hs H hH => valid67 h67 hV n H hH s (hsz s hs)
  generalize hc : acall E orc (n + 2) = call at hcall
  obtain ⟨tm, ext, hx, ht⟩ : ∃ (tm : List AV) (ext : Heap), acode E call (n + 2) (Tryz.f68.body.get!) (aframe E Tryz.f68 [.sl ns.length (namesA ns)] H) = some (.ret, ⟨tm, [], H ++ ext⟩) ∧ tm.getD 2 (.v undef) = .v (.bool (namesB valid [] ns)) := by
    obtain ⟨tm0, htm, h0, hfr⟩ : ∃ tm0 : List AV, tm0.length = 24 ∧ tm0.getD 0 (.v undef) = .sl ns.length (namesA ns) ∧ aframe E Tryz.f68 [.sl ns.length (namesA ns)] H = ⟨tm0, [], H⟩ := ⟨_, rfl, rfl, rfl⟩
    rw [hfr]
    generalize hq : acode E call (n + 2) (Tryz.f68.body.get!) ⟨tm0, [], H⟩ = q
    simp [Tryz.f68] at hq
    simp only [aop_lookup, aop_update, aop_makeMap, aop_un, oun_not, aops_if, aguard_tt, aguard_ff, aguard_tf, aguard_ft, aguard_un, gslot, gval_some, aop_pick, opick_true, opick_false, List.getElem?_toArray, List.getElem?_cons_succ, List.getElem?_cons_zero, Option.bind_some, goInt, conv, convA, conv1, List.toList_toArray, Option.get!_some, ne_eq, not_false_eq_true, decide_false, decide_true, Nat.reduceEqDiff, Nat.reduceLT, Option.map_some, List.map_cons, List.map_nil, aops_nil, aops_plain, astep_val, astep_skip, astep_pan, putA_some, putA_none, aval_tmp, aval_const, aval_func, abind_normal, abind_exit, abind_ret, abind_pan, acode_seq, acode_region, acode_skip, acode_exit, acode_ret, acode_block, ablock_normal, ablock_ret, ablock_self, aop_move, aop_assign, aop_box, obox_some, aop_fieldAddr, aop_load, oload_ep, aop_store, aop_bin, obin_lss, obin_add, aop_call, aop_len, aop_max, omax_int, List.length_set, getD_set_self, getD_set_ne, htm, h0, olen_sl und26] at hq
    generalize hX : acode E call (n + 2) (Code.loop _) _ = X at hq
    rw [acode_loop] at hX
    have hX2 : ∃ (tm' : List AV) (seen' : List ByteArray), X = some (if namesB valid [] (ns.drop 0) = true then .exit 0 else .ret, ⟨tm', [], H ++ [.map (mapOf seen')]⟩) ∧ tm'.length = 24 ∧ (namesB valid [] (ns.drop 0) = false → tm'.getD 2 (.v undef) = .v (.bool false)) := by
      rw [← hX]
      refine names_loop call (n + 2) valid ns H hH hcall hl (n + 2) 0 [] _ ?_ ?_ ?_ ?_ ?_ (by omega) (by omega)
      · simp only [aop_lookup, aop_update, aop_makeMap, aop_un, oun_not, aops_if, aguard_tt, aguard_ff, aguard_tf, aguard_ft, aguard_un, gslot, gval_some, aop_pick, opick_true, opick_false, List.getElem?_toArray, List.getElem?_cons_succ, List.getElem?_cons_zero, Option.bind_some, goInt, conv, convA, conv1, List.toList_toArray, Option.get!_some, ne_eq, not_false_eq_true, decide_false, decide_true, Nat.reduceEqDiff, Nat.reduceLT, Option.map_some, List.map_cons, List.map_nil, aops_nil, aops_plain, astep_val, astep_skip, astep_pan, putA_some, putA_none, aval_tmp, aval_const, aval_func, abind_normal, abind_exit, abind_ret, abind_pan, acode_seq, acode_region, acode_skip, acode_exit, acode_ret, acode_block, ablock_normal, ablock_ret, ablock_self, aop_move, aop_assign, aop_box, obox_some, aop_fieldAddr, aop_load, oload_ep, aop_store, aop_bin, obin_lss, obin_add, aop_call, aop_len, aop_max, omax_int, List.length_set, getD_set_self, getD_set_ne, htm]
      · simp only [aop_lookup, aop_update, aop_makeMap, aop_un, oun_not, aops_if, aguard_tt, aguard_ff, aguard_tf, aguard_ft, aguard_un, gslot, gval_some, aop_pick, opick_true, opick_false, List.getElem?_toArray, List.getElem?_cons_succ, List.getElem?_cons_zero, Option.bind_some, goInt, conv, convA, conv1, List.toList_toArray, Option.get!_some, ne_eq, not_false_eq_true, decide_false, decide_true, Nat.reduceEqDiff, Nat.reduceLT, Option.map_some, List.map_cons, List.map_nil, aops_nil, aops_plain, astep_val, astep_skip, astep_pan, putA_some, putA_none, aval_tmp, aval_const, aval_func, abind_normal, abind_exit, abind_ret, abind_pan, acode_seq, acode_region, acode_skip, acode_exit, acode_ret, acode_block, ablock_normal, ablock_ret, ablock_self, aop_move, aop_assign, aop_box, obox_some, aop_fieldAddr, aop_load, oload_ep, aop_store, aop_bin, obin_lss, obin_add, aop_call, aop_len, aop_max, omax_int, List.length_set, getD_set_self, getD_set_ne, htm]
      · simp only [aop_lookup, aop_update, aop_makeMap, aop_un, oun_not, aops_if, aguard_tt, aguard_ff, aguard_tf, aguard_ft, aguard_un, gslot, gval_some, aop_pick, opick_true, opick_false, List.getElem?_toArray, List.getElem?_cons_succ, List.getElem?_cons_zero, Option.bind_some, goInt, conv, convA, conv1, List.toList_toArray, Option.get!_some, ne_eq, not_false_eq_true, decide_false, decide_true, Nat.reduceEqDiff, Nat.reduceLT, Option.map_some, List.map_cons, List.map_nil, aops_nil, aops_plain, astep_val, astep_skip, astep_pan, putA_some, putA_none, aval_tmp, aval_const, aval_func, abind_normal, abind_exit, abind_ret, abind_pan, acode_seq, acode_region, acode_skip, acode_exit, acode_ret, acode_block, ablock_normal, ablock_ret, ablock_self, aop_move, aop_assign, aop_box, obox_some, aop_fieldAddr, aop_load, oload_ep, aop_store, aop_bin, obin_lss, obin_add, aop_call, aop_len, aop_max, omax_int, List.length_set, getD_set_self, getD_set_ne, htm]
      · simp only [aop_lookup, aop_update, aop_makeMap, aop_un, oun_not, aops_if, aguard_tt, aguard_ff, aguard_tf, aguard_ft, aguard_un, gslot, gval_some, aop_pick, opick_true, opick_false, List.getElem?_toArray, List.getElem?_cons_succ, List.getElem?_cons_zero, Option.bind_some, goInt, conv, convA, conv1, List.toList_toArray, Option.get!_some, ne_eq, not_false_eq_true, decide_false, decide_true, Nat.reduceEqDiff, Nat.reduceLT, Option.map_some, List.map_cons, List.map_nil, aops_nil, aops_plain, astep_val, astep_skip, astep_pan, putA_some, putA_none, aval_tmp, aval_const, aval_func, abind_normal, abind_exit, abind_ret, abind_pan, acode_seq, acode_region, acode_skip, acode_exit, acode_ret, acode_block, ablock_normal, ablock_ret, ablock_self, aop_move, aop_assign, aop_box, obox_some, aop_fieldAddr, aop_load, oload_ep, aop_store, aop_bin, obin_lss, obin_add, aop_call, aop_len, aop_max, omax_int, List.length_set, getD_set_self, getD_set_ne, htm]
      · simp only [aop_lookup, aop_update, aop_makeMap, aop_un, oun_not, aops_if, aguard_tt, aguard_ff, aguard_tf, aguard_ft, aguard_un, gslot, gval_some, aop_pick, opick_true, opick_false, List.getElem?_toArray, List.getElem?_cons_succ, List.getElem?_cons_zero, Option.bind_some, goInt, conv, convA, conv1, List.toList_toArray, Option.get!_some, ne_eq, not_false_eq_true, decide_false, decide_true, Nat.reduceEqDiff, Nat.reduceLT, Option.map_some, List.map_cons, List.map_nil, aops_nil, aops_plain, astep_val, astep_skip, astep_pan, putA_some, putA_none, aval_tmp, aval_const, aval_func, abind_normal, abind_exit, abind_ret, abind_pan, acode_seq, acode_region, acode_skip, acode_exit, acode_ret, acode_block, ablock_normal, ablock_ret, ablock_self, aop_move, aop_assign, aop_box, obox_some, aop_fieldAddr, aop_load, oload_ep, aop_store, aop_bin, obin_lss, obin_add, aop_call, aop_len, aop_max, omax_int, List.length_set, getD_set_self, getD_set_ne, htm]; rfl
    rw [List.drop_zero] at hX2
    obtain ⟨tm1, seen', rfl, e1, e2⟩ := hX2
    cases hb : namesB valid [] ns with
    | true =>
      rw [hb] at hq
      simp only [aop_lookup, aop_update, aop_makeMap, aop_un, oun_not, aops_if, aguard_tt, aguard_ff, aguard_tf, aguard_ft, aguard_un, gslot, gval_some, aop_pick, opick_true, opick_false, List.getElem?_toArray, List.getElem?_cons_succ, List.getElem?_cons_zero, Option.bind_some, goInt, conv, convA, conv1, List.toList_toArray, Option.get!_some, ne_eq, not_false_eq_true, decide_false, decide_true, Nat.reduceEqDiff, Nat.reduceLT, Option.map_some, List.map_cons, List.map_nil, aops_nil, aops_plain, astep_val, astep_skip, astep_pan, putA_some, putA_none, aval_tmp, aval_const, aval_func, abind_normal, abind_exit, abind_ret, abind_pan, acode_seq, acode_region, acode_skip, acode_exit, acode_ret, acode_block, ablock_normal, ablock_ret, ablock_self, aop_move, aop_assign, aop_box, obox_some, aop_fieldAddr, aop_load, oload_ep, aop_store, aop_bin, obin_lss, obin_add, aop_call, aop_len, aop_max, omax_int, List.length_set, getD_set_self, getD_set_ne, e1, if_true] at hq
      subst hq
      exact ⟨_, _, rfl, by simp only [aop_lookup, aop_update, aop_makeMap, aop_un, oun_not, aops_if, aguard_tt, aguard_ff, aguard_tf, aguard_ft, aguard_un, gslot, gval_some, aop_pick, opick_true, opick_false, List.getElem?_toArray, List.getElem?_cons_succ, List.getElem?_cons_zero, Option.bind_some, goInt, conv, convA, conv1, List.toList_toArray, Option.get!_some, ne_eq, not_false_eq_true, decide_false, decide_true, Nat.reduceEqDiff, Nat.reduceLT, Option.map_some, List.map_cons, List.map_nil, aops_nil, aops_plain, astep_val, astep_skip, astep_pan, putA_some, putA_none, aval_tmp, aval_const, aval_func, abind_normal, abind_exit, abind_ret, abind_pan, acode_seq, acode_region, acode_skip, acode_exit, acode_ret, acode_block, ablock_normal, ablock_ret, ablock_self, aop_move, aop_assign, aop_box, obox_some, aop_fieldAddr, aop_load, oload_ep, aop_store, aop_bin, obin_lss, obin_add, aop_call, aop_len, aop_max, omax_int, List.length_set, getD_set_self, getD_set_ne, e1]⟩
    | false =>
      rw [hb] at hq
      simp only [aop_lookup, aop_update, aop_makeMap, aop_un, oun_not, aops_if, aguard_tt, aguard_ff, aguard_tf, aguard_ft, aguard_un, gslot, gval_some, aop_pick, opick_true, opick_false, List.getElem?_toArray, List.getElem?_cons_succ, List.getElem?_cons_zero, Option.bind_some, goInt, conv, convA, conv1, List.toList_toArray, Option.get!_some, ne_eq, not_false_eq_true, decide_false, decide_true, Nat.reduceEqDiff, Nat.reduceLT, Option.map_some, List.map_cons, List.map_nil, aops_nil, aops_plain, astep_val, astep_skip, astep_pan, putA_some, putA_none, aval_tmp, aval_const, aval_func, abind_normal, abind_exit, abind_ret, abind_pan, acode_seq, acode_region, acode_skip, acode_exit, acode_ret, acode_block, ablock_normal, ablock_ret, ablock_self, aop_move, aop_assign, aop_box, obox_some, aop_fieldAddr, aop_load, oload_ep, aop_store, aop_bin, obin_lss, obin_add, aop_call, aop_len, aop_max, omax_int, List.length_set, getD_set_self, getD_set_ne, Bool.false_eq_true, if_false] at hq
      subst hq
      exact ⟨_, _, rfl, e2 hb⟩
  rw [acall_ret1 h68 code68 (t := 2) rfl (by rw [hc]; exact hx), ht, gc_all hH rfl]

end Go.AI.Jx
end
section
set_option linter.all false
namespace Go.AI.Jx
open Go Go.Proofs

theorem noGor : (Tryz.prog.funcs.all fun fn => !(fn.name == "runtime.NumGoroutine")) = true := by kernel_rfl

theorem glob_under (gl : Nat) : AV.underL 0 (glob gl) = true := by
  unfold glob
  split <;> kernel_rfl

theorem code_ok (g : FuncId) (fn : Func) (c : Code) (h : code g = some (fn, c)) : Tryz.prog.funcs[g]? = some fn ∧ fn.body = some c ∧ (fn.name == "runtime.NumGoroutine") = false := by
  unfold code at h
  split at h
  · rename_i fn' hf
    split at h
    · rename_i c' hc
      cases h
      refine ⟨hf, hc, ?_⟩
      obtain ⟨hi, rfl⟩ := Array.getElem?_eq_some_iff.1 hf
      have := (Array.all_eq_true.1 noGor) g hi
      simpa using this
    · cases h
  · cases h

theorem ext_ok (g : FuncId) (vs : List Value) (r : Value) (w : World) (h : ext g vs = some r) : (callFunc g vs.toArray).run Tryz.prog w = .ok (.value r) w := by
  unfold ext at h
  split at h
  · rename_i r' hq
    cases h
    exact quiet_run _ hq w
  · cases h

theorem noesc_ok (g : FuncId) (x : Value) (w : World) (h : (g == 111) = true) : (callFunc g #[x]).run Tryz.prog w = .ok (.value x) w := by
  have : g = 111 := by simpa using h
  subst this
  refine quiet_run (P := Tryz.prog) _ ?_ w
  kernel_rfl

theorem E_P : E.P = Tryz.prog := by kernel_rfl
theorem E_code : E.code = code := by kernel_rfl
theorem E_glob : E.glob = glob := by kernel_rfl
theorem E_ext : E.ext = ext := by kernel_rfl
theorem E_noesc : E.noesc = fun g => g == 111 := by kernel_rfl
theorem Ek_P : Ek.P = Tryz.prog := by kernel_rfl
theorem Ek_code : Ek.code = code := by kernel_rfl
theorem Ek_glob : Ek.glob = glob := by kernel_rfl
theorem Ek_ext : Ek.ext = ext := by kernel_rfl
theorem Ek_noesc : Ek.noesc = fun g => g == 111 := by kernel_rfl
theorem goodE : E.Good := by
  refine ⟨?_, ?_, ?_, ?_, ?_, ?_⟩
  · rw [E_glob]; exact glob_under
  · rw [E_code, E_P]; exact code_ok
  · rw [E_noesc, E_P]; exact noesc_ok
  · rw [E_ext, E_P]; exact ext_ok
  · exact fun x y h => by simpa [E] using h
  · exact fun x y h => by simpa [E] using h

theorem goodK : Ek.Good := by
  refine ⟨?_, ?_, ?_, ?_, ?_, ?_⟩
  · rw [Ek_glob]; exact glob_under
  · rw [Ek_code, Ek_P]; exact code_ok
  · rw [Ek_noesc, Ek_P]; exact noesc_ok
  · rw [Ek_ext, Ek_P]; exact ext_ok
  · exact fun x y h => avEq_eq h
  · exact fun x y h => heapEq_eq h

theorem mixed : E.P.follows .mixedOrders = true := by kernel_rfl
theorem mixedK : Ek.P.follows .mixedOrders = true := by kernel_rfl

theorem inv_k {g : Ghost} {H : Heap} {w : World} : Inv Ek g H w ↔ Inv E g H w := by
  constructor
  · intro I
    exact ⟨I.st, I.own, I.objs, I.dis, I.dom, I.adom, I.amax, I.glob⟩
  · intro I
    exact ⟨I.st, I.own, I.objs, I.dis, I.dom, I.adom, I.amax, I.glob⟩

end Go.AI.Jx
end
section
set_option linter.all false
set_option maxRecDepth 100000
namespace Go.AI
open Go
namespace Jx
open Go.Proofs
theorem eq4 {n n' : Bool} : quiet Tryz.prog (Op.equalIn 9999 4 (.bool n) (.bool n')) = some (n == n') := by kernel_rfl
theorem eq9 {d d' : ByteArray} : quiet Tryz.prog (Op.equalIn 9999 9 (.string d) (.string d')) = some (d == d') := by kernel_rfl
theorem eq3 {e e' : Int} : quiet Tryz.prog (Op.equalIn 9999 3 (.int .i64 e) (.int .i64 e')) = some (e == e') := by kernel_rfl
theorem eqn24 {n n' : Bool} {d d' : ByteArray} {e e' : Int} : quiet Tryz.prog (Op.equal 24 (.agg #[.bool n, .string d, .int .i64 e]) (.agg #[.bool n', .string d', .int .i64 e'])) = some (n == n' && d == d' && e == e') := by
  unfold Op.equal
  show quiet Tryz.prog (Op.equalIn (9999 + 1) 24 _ _) = _
  unfold Op.equalIn
  rw [quiet_bind]
  have hu : quiet Tryz.prog (Go.underlying 24) = some (.struct #[{ name := "Neg", type := 4, offset := 0, embedded := false, tag := "", pkgPath := "", byteOffset := 0 }, { name := "Digits", type := 9, offset := 1, embedded := false, tag := "", pkgPath := "", byteOffset := 8 }, { name := "Exp", type := 3, offset := 2, embedded := false, tag := "", pkgPath := "", byteOffset := 24 }]) := by kernel_rfl
  rw [hu]
  simp only [Option.bind_some]
  rw [quiet_bind]
  have hp : quiet Tryz.prog (Go.program) = some Tryz.prog := by kernel_rfl
  rw [hp]
  simp only [Option.bind_some]
  have hs : Tryz.prog.stoodInHeld 24 = false := by kernel_rfl
  rw [hs]
  simp
  have p0 : ∀ (n : Bool) (d : ByteArray) (e : Int), quiet Tryz.prog (part 4 #[.bool n, .string d, .int .i64 e] 0) = some (.bool n) := fun _ _ _ => by kernel_rfl
  have p1 : ∀ (n : Bool) (d : ByteArray) (e : Int), quiet Tryz.prog (part 9 #[.bool n, .string d, .int .i64 e] 1) = some (.string d) := fun _ _ _ => by kernel_rfl
  have p2 : ∀ (n : Bool) (d : ByteArray) (e : Int), quiet Tryz.prog (part 3 #[.bool n, .string d, .int .i64 e] 2) = some (.int .i64 e) := fun _ _ _ => by kernel_rfl
  simp only [quiet_bind, p0, p1, p2, eq4, eq9, eq3, Option.bind_some]
  cases (n == n') with
  | false => simp [quiet_pure, quiet_bind]
  | true =>
    simp only [quiet_pure, quiet_bind, p1, eq9, Bool.true_eq_false, if_false, Option.bind_some]
    cases (d == d') with
    | false => simp [quiet_pure, quiet_bind]
    | true =>
      simp only [quiet_pure, quiet_bind, p2, eq3, Bool.true_eq_false, if_false, Option.bind_some]
      cases (e == e') <;> simp [quiet_pure, quiet_bind]

theorem obin_eq24 {H : Heap} {x y : Operand} {n n' : Bool} {d d' : ByteArray} {e e' : Int} : obin E.P .eql 24 x y H (.agg [.v (.bool n), .v (.string d), .v (.int .i64 e)]) (.agg [.v (.bool n'), .v (.string d'), .v (.int .i64 e')]) = some (.val (.v (.bool (n == n' && d == d' && e == e'))), H) := by
  have h1 : (AV.agg [.v (.bool n), .v (.string d), .v (.int .i64 e)]).un = some (.agg #[.bool n, .string d, .int .i64 e]) := rfl
  have h2 : (AV.agg [.v (.bool n'), .v (.string d'), .v (.int .i64 e')]).un = some (.agg #[.bool n', .string d', .int .i64 e']) := rfl
  have hg : quiet Tryz.prog (eqGuard .eql 24 x y (.agg #[.bool n, .string d, .int .i64 e]) (.agg #[.bool n', .string d', .int .i64 e'])) = some () := by kernel_rfl
  have hb : binOp .eql 24 (.agg #[.bool n, .string d, .int .i64 e]) (.agg #[.bool n', .string d', .int .i64 e']) = (do pure (.bool (← Op.equal 24 (.agg #[.bool n, .string d, .int .i64 e]) (.agg #[.bool n', .string d', .int .i64 e'])))) := rfl
  rw [E_P]
  unfold obin
  simp only [h1, h2, quiet_bind, hg, hb, eqn24, quiet_pure, Option.bind_some, Option.map_some]
  rfl
theorem obin_ne24 {H : Heap} {x y : Operand} {n n' : Bool} {d d' : ByteArray} {e e' : Int} : obin E.P .neq 24 x y H (.agg [.v (.bool n), .v (.string d), .v (.int .i64 e)]) (.agg [.v (.bool n'), .v (.string d'), .v (.int .i64 e')]) = some (.val (.v (.bool (!(n == n' && d == d' && e == e')))), H) := by
  have h1 : (AV.agg [.v (.bool n), .v (.string d), .v (.int .i64 e)]).un = some (.agg #[.bool n, .string d, .int .i64 e]) := rfl
  have h2 : (AV.agg [.v (.bool n'), .v (.string d'), .v (.int .i64 e')]).un = some (.agg #[.bool n', .string d', .int .i64 e']) := rfl
  have hg : quiet Tryz.prog (eqGuard .neq 24 x y (.agg #[.bool n, .string d, .int .i64 e]) (.agg #[.bool n', .string d', .int .i64 e'])) = some () := by kernel_rfl
  have hb : binOp .neq 24 (.agg #[.bool n, .string d, .int .i64 e]) (.agg #[.bool n', .string d', .int .i64 e']) = (do pure (.bool (!(← Op.equal 24 (.agg #[.bool n, .string d, .int .i64 e]) (.agg #[.bool n', .string d', .int .i64 e']))))) := rfl
  rw [E_P]
  unfold obin
  simp only [h1, h2, quiet_bind, hg, hb, eqn24, quiet_pure, Option.bind_some, Option.map_some]
  rfl
end Jx
end Go.AI
end
section
set_option linter.all false
set_option maxRecDepth 100000
namespace Go.AI.Jx
open Go Go.Proofs
theorem sameE (y : AV) : E.same y y = true := by simp [E]
theorem sameHE (K : Heap) : E.sameH K K = true := by simp [E]
theorem tyA :
    (isAggT E.P 0 = some false) ∧
    (isAggT E.P 1 = some false) ∧
    (isAggT E.P 2 = some false) ∧
    (isAggT E.P 3 = some false) ∧
    (isAggT E.P 4 = some false) ∧
    (isAggT E.P 5 = some false) ∧
    (isAggT E.P 6 = some false) ∧
    (isAggT E.P 7 = some true) ∧
    (isAggT E.P 8 = some true) ∧
    (isAggT E.P 9 = some false) ∧
    (isAggT E.P 10 = some false) ∧
    (isAggT E.P 12 = some false) ∧
    (isAggT E.P 15 = some false) ∧
    (isAggT E.P 16 = some false) ∧
    (isAggT E.P 18 = some true) ∧
    (isAggT E.P 19 = some true) ∧
    (isAggT E.P 20 = some false) ∧
    (isAggT E.P 21 = some false) ∧
    (isAggT E.P 22 = some false) ∧
    (isAggT E.P 24 = some true) ∧
    (isAggT E.P 25 = some false) ∧
    (isAggT E.P 26 = some false) ∧
    (isAggT E.P 27 = some false) ∧
    (isAggT E.P 29 = some true) ∧
    (isAggT E.P 30 = some false) ∧
    (isAggT E.P 31 = some false) ∧
    (isAggT E.P 32 = some false) ∧
    (isAggT E.P 33 = some false) ∧
    (isAggT E.P 34 = some false) ∧
    (isAggT E.P 36 = some false) ∧
    (isAggT E.P 38 = some false) ∧
    (isAggT E.P 40 = some false) ∧
    (isAggT E.P 43 = some false) ∧
    (isAggT E.P 44 = some false) ∧
    (isAggT E.P 45 = some true) ∧
    (isAggT E.P 46 = some true) ∧
    (isAggT E.P 48 = some false) ∧
    (isAggT E.P 51 = some true) ∧
    (isAggT E.P 52 = some false) ∧
    (isAggT E.P 54 = some true) ∧
    (isAggT E.P 56 = some false) ∧
    (isAggT E.P 57 = some false) ∧
    (isAggT E.P 58 = some false) ∧
    (isAggT E.P 60 = some false) ∧
    (isAggT E.P 61 = some false) ∧
    (isAggT E.P 62 = some false) ∧
    (isAggT E.P 63 = some false) ∧
    (isAggT E.P 64 = some false) ∧
    (isAggT E.P 69 = some false) ∧
    (isAggT E.P 70 = some false) ∧
    (isAggT E.P 72 = some false) ∧
    (isAggT E.P 74 = some false) ∧
    (isAggT E.P 78 = some true) ∧
    (isAggT E.P 79 = some false) ∧
    (isAggT E.P 81 = some true) ∧
    (isAggT E.P 91 = some false) ∧
    (isAggT E.P 92 = some true) ∧
    (isAggT E.P 93 = some true) ∧
    (isAggT E.P 95 = some false) ∧
    (isAggT E.P 97 = some false) ∧
    (isAggT E.P 98 = some false) ∧
    (isAggT E.P 100 = some false) ∧
    (isAggT E.P 101 = some false) ∧
    (isAggT E.P 102 = some false) ∧
    (isAggT E.P 109 = some false) ∧
    (isAggT E.P 111 = some true) ∧
    (isAggT E.P 113 = some false) ∧
    (isAggT E.P 114 = some false) ∧
    (isAggT E.P 117 = some false) ∧
    (isAggT E.P 120 = some false) ∧
    (isAggT E.P 122 = some false) ∧
    (isAggT E.P 123 = some false) ∧
    (isAggT E.P 128 = some false) ∧
    (isAggT E.P 135 = some false) ∧
    (isAggT E.P 138 = some true) ∧
    (isAggT E.P 140 = some true) ∧
    (isAggT E.P 141 = some true) ∧
    (isAggT E.P 142 = some false) ∧
    (isAggT E.P 147 = some true) ∧
    (isAggT E.P 160 = some true) ∧
    (isAggT E.P 161 = some true) ∧
    (isAggT E.P 165 = some false) ∧
    (isAggT E.P 167 = some false) ∧
    (isAggT E.P 176 = some true) ∧
    (isAggT E.P 180 = some true) ∧
    (isAggT E.P 181 = some true) ∧
    (isAggT E.P 182 = some false) ∧
    (isAggT E.P 184 = some true) ∧
    (isAggT E.P 187 = some true) ∧
    (isAggT E.P 190 = some true) ∧
    (isAggT E.P 191 = some false) ∧
    (isAggT E.P 192 = some false) := by
  refine ⟨?_, ?_, ?_, ?_, ?_, ?_, ?_, ?_, ?_, ?_, ?_, ?_, ?_, ?_, ?_, ?_, ?_, ?_, ?_, ?_, ?_, ?_, ?_, ?_, ?_, ?_, ?_, ?_, ?_, ?_, ?_, ?_, ?_, ?_, ?_, ?_, ?_, ?_, ?_, ?_, ?_, ?_, ?_, ?_, ?_, ?_, ?_, ?_, ?_, ?_, ?_, ?_, ?_, ?_, ?_, ?_, ?_, ?_, ?_, ?_, ?_, ?_, ?_, ?_, ?_, ?_, ?_, ?_, ?_, ?_, ?_, ?_, ?_, ?_, ?_, ?_, ?_, ?_, ?_, ?_, ?_, ?_, ?_, ?_, ?_, ?_, ?_, ?_, ?_, ?_, ?_, ?_⟩ <;> kernel_rfl
theorem tyS :
    (sizeT E.P 0 = some 1) ∧
    (sizeT E.P 1 = some 1) ∧
    (sizeT E.P 2 = some 1) ∧
    (sizeT E.P 3 = some 1) ∧
    (sizeT E.P 4 = some 1) ∧
    (sizeT E.P 5 = some 1) ∧
    (sizeT E.P 6 = some 1) ∧
    (sizeT E.P 7 = some 4) ∧
    (sizeT E.P 8 = some 4) ∧
    (sizeT E.P 9 = some 1) ∧
    (sizeT E.P 10 = some 1) ∧
    (sizeT E.P 12 = some 1) ∧
    (sizeT E.P 15 = some 1) ∧
    (sizeT E.P 16 = some 1) ∧
    (sizeT E.P 18 = some 1) ∧
    (sizeT E.P 19 = some 1) ∧
    (sizeT E.P 20 = some 1) ∧
    (sizeT E.P 21 = some 1) ∧
    (sizeT E.P 22 = some 1) ∧
    (sizeT E.P 24 = some 3) ∧
    (sizeT E.P 25 = some 1) ∧
    (sizeT E.P 26 = some 1) ∧
    (sizeT E.P 27 = some 1) ∧
    (sizeT E.P 29 = some 9) ∧
    (sizeT E.P 30 = some 1) ∧
    (sizeT E.P 31 = some 1) ∧
    (sizeT E.P 32 = some 1) ∧
    (sizeT E.P 33 = some 1) ∧
    (sizeT E.P 34 = some 1) ∧
    (sizeT E.P 36 = some 1) ∧
    (sizeT E.P 38 = some 1) ∧
    (sizeT E.P 40 = some 1) ∧
    (sizeT E.P 43 = some 1) ∧
    (sizeT E.P 44 = some 1) ∧
    (sizeT E.P 45 = some 2) ∧
    (sizeT E.P 46 = some 2) ∧
    (sizeT E.P 48 = some 1) ∧
    (sizeT E.P 51 = some 0) ∧
    (sizeT E.P 52 = some 1) ∧
    (sizeT E.P 54 = some 2) ∧
    (sizeT E.P 56 = some 1) ∧
    (sizeT E.P 57 = some 1) ∧
    (sizeT E.P 58 = some 1) ∧
    (sizeT E.P 60 = some 1) ∧
    (sizeT E.P 61 = some 1) ∧
    (sizeT E.P 62 = some 1) ∧
    (sizeT E.P 63 = some 1) ∧
    (sizeT E.P 64 = some 1) ∧
    (sizeT E.P 69 = some 1) ∧
    (sizeT E.P 70 = some 1) ∧
    (sizeT E.P 72 = some 1) ∧
    (sizeT E.P 74 = some 1) ∧
    (sizeT E.P 78 = some 0) ∧
    (sizeT E.P 79 = some 1) ∧
    (sizeT E.P 81 = some 2) ∧
    (sizeT E.P 91 = some 1) ∧
    (sizeT E.P 92 = some 256) ∧
    (sizeT E.P 93 = some 256) ∧
    (sizeT E.P 95 = some 1) ∧
    (sizeT E.P 97 = some 1) ∧
    (sizeT E.P 98 = some 1) ∧
    (sizeT E.P 100 = some 1) ∧
    (sizeT E.P 101 = some 1) ∧
    (sizeT E.P 102 = some 1) ∧
    (sizeT E.P 109 = some 1) ∧
    (sizeT E.P 111 = some 2) ∧
    (sizeT E.P 113 = some 1) ∧
    (sizeT E.P 114 = some 1) ∧
    (sizeT E.P 117 = some 1) ∧
    (sizeT E.P 120 = some 1) ∧
    (sizeT E.P 122 = some 1) ∧
    (sizeT E.P 123 = some 1) ∧
    (sizeT E.P 128 = some 1) ∧
    (sizeT E.P 135 = some 1) ∧
    (sizeT E.P 138 = some 256) ∧
    (sizeT E.P 140 = some 2) ∧
    (sizeT E.P 141 = some 32) ∧
    (sizeT E.P 142 = some 1) ∧
    (sizeT E.P 147 = some 24) ∧
    (sizeT E.P 160 = some 20) ∧
    (sizeT E.P 161 = some 65) ∧
    (sizeT E.P 165 = some 1) ∧
    (sizeT E.P 167 = some 1) ∧
    (sizeT E.P 176 = some 3) ∧
    (sizeT E.P 180 = some 32) ∧
    (sizeT E.P 181 = some 64) ∧
    (sizeT E.P 182 = some 1) ∧
    (sizeT E.P 184 = some 1) ∧
    (sizeT E.P 187 = some 4) ∧
    (sizeT E.P 190 = some 0) ∧
    (sizeT E.P 191 = some 1) ∧
    (sizeT E.P 192 = some 1) := by
  refine ⟨?_, ?_, ?_, ?_, ?_, ?_, ?_, ?_, ?_, ?_, ?_, ?_, ?_, ?_, ?_, ?_, ?_, ?_, ?_, ?_, ?_, ?_, ?_, ?_, ?_, ?_, ?_, ?_, ?_, ?_, ?_, ?_, ?_, ?_, ?_, ?_, ?_, ?_, ?_, ?_, ?_, ?_, ?_, ?_, ?_, ?_, ?_, ?_, ?_, ?_, ?_, ?_, ?_, ?_, ?_, ?_, ?_, ?_, ?_, ?_, ?_, ?_, ?_, ?_, ?_, ?_, ?_, ?_, ?_, ?_, ?_, ?_, ?_, ?_, ?_, ?_, ?_, ?_, ?_, ?_, ?_, ?_, ?_, ?_, ?_, ?_, ?_, ?_, ?_, ?_, ?_, ?_⟩ <;> kernel_rfl
theorem tyU :
    (E.P.underlying 2 = some (.int .i64)) ∧
    (E.P.underlying 3 = some (.int .i64)) ∧
    (E.P.underlying 4 = some .bool) ∧
    (E.P.underlying 5 = some (.int .u8)) ∧
    (E.P.underlying 6 = some (.int .u8)) ∧
    (E.P.underlying 9 = some .string) ∧
    (E.P.underlying 10 = some .string) ∧
    (E.P.underlying 12 = some (.int .u64)) ∧
    (E.P.underlying 15 = some (.pointer 187)) ∧
    (E.P.underlying 16 = some (.pointer 190)) ∧
    (E.P.underlying 21 = some (.int .i32)) ∧
    (E.P.underlying 22 = some (.int .i64)) ∧
    (E.P.underlying 25 = some (.int .u64)) ∧
    (E.P.underlying 26 = some (.slice 9)) ∧
    (E.P.underlying 27 = some (.slice 29)) ∧
    (E.P.underlying 30 = some (.slice 5)) ∧
    (E.P.underlying 33 = some (.int .i64)) ∧
    (E.P.underlying 44 = some (.pointer 46)) ∧
    (E.P.underlying 52 = some (.pointer 54)) ∧
    (E.P.underlying 69 = some (.int .u64)) ∧
    (E.P.underlying 72 = some (.pointer 5)) ∧
    (E.P.underlying 79 = some (.pointer 81)) ∧
    (E.P.underlying 92 = some (.array 256 4)) ∧
    (E.P.underlying 93 = some (.array 256 4)) ∧
    (E.P.underlying 97 = some (.pointer 93)) ∧
    (E.P.underlying 100 = some (.map 9 4)) ∧
    (E.P.underlying 109 = some .string) ∧
    (E.P.underlying 113 = some .string) ∧
    (E.P.underlying 114 = some .string) ∧
    (E.P.underlying 138 = some (.array 256 5)) ∧
    (E.P.underlying 141 = some (.array 16 140)) ∧
    (E.P.underlying 142 = some (.int .u32)) ∧
    (E.P.underlying 147 = some (.array 24 5)) ∧
    (E.P.underlying 160 = some (.array 20 25)) ∧
    (E.P.underlying 161 = some (.array 65 5)) ∧
    (E.P.underlying 165 = some (.int .i64)) ∧
    (E.P.underlying 167 = some (.pointer 176)) ∧
    (E.P.underlying 180 = some (.array 32 5)) ∧
    (E.P.underlying 181 = some (.array 64 5)) ∧
    (E.P.underlying 182 = some (.pointer 184)) ∧
    (E.P.underlying 191 = some (.int .u8)) ∧
    (E.P.underlying 192 = some (.int .u8)) := by
  refine ⟨?_, ?_, ?_, ?_, ?_, ?_, ?_, ?_, ?_, ?_, ?_, ?_, ?_, ?_, ?_, ?_, ?_, ?_, ?_, ?_, ?_, ?_, ?_, ?_, ?_, ?_, ?_, ?_, ?_, ?_, ?_, ?_, ?_, ?_, ?_, ?_, ?_, ?_, ?_, ?_, ?_, ?_⟩ <;> kernel_rfl
theorem tyF :
    (foff E.P 7 0 = some 0) ∧
    (foff E.P 7 1 = some 1) ∧
    (foff E.P 7 2 = some 2) ∧
    (foff E.P 7 3 = some 3) ∧
    (foff E.P 8 0 = some 0) ∧
    (foff E.P 8 1 = some 1) ∧
    (foff E.P 8 2 = some 2) ∧
    (foff E.P 8 3 = some 3) ∧
    (foff E.P 18 0 = some 0) ∧
    (foff E.P 19 0 = some 0) ∧
    (foff E.P 24 0 = some 0) ∧
    (foff E.P 24 1 = some 1) ∧
    (foff E.P 24 2 = some 2) ∧
    (foff E.P 29 0 = some 0) ∧
    (foff E.P 29 1 = some 1) ∧
    (foff E.P 29 2 = some 2) ∧
    (foff E.P 29 3 = some 5) ∧
    (foff E.P 29 4 = some 6) ∧
    (foff E.P 29 5 = some 7) ∧
    (foff E.P 29 6 = some 8) ∧
    (foff E.P 45 0 = some 0) ∧
    (foff E.P 45 1 = some 1) ∧
    (foff E.P 46 0 = some 0) ∧
    (foff E.P 46 1 = some 1) ∧
    (foff E.P 54 0 = some 0) ∧
    (foff E.P 54 1 = some 1) ∧
    (foff E.P 81 0 = some 0) ∧
    (foff E.P 81 1 = some 1) ∧
    (foff E.P 111 0 = some 0) ∧
    (foff E.P 111 1 = some 1) ∧
    (foff E.P 140 0 = some 0) ∧
    (foff E.P 140 1 = some 1) ∧
    (foff E.P 176 0 = some 0) ∧
    (foff E.P 176 1 = some 1) ∧
    (foff E.P 176 2 = some 2) ∧
    (foff E.P 184 0 = some 0) ∧
    (foff E.P 187 0 = some 0) ∧
    (foff E.P 187 1 = some 1) ∧
    (foff E.P 187 2 = some 2) ∧
    (foff E.P 187 3 = some 3) := by
  refine ⟨?_, ?_, ?_, ?_, ?_, ?_, ?_, ?_, ?_, ?_, ?_, ?_, ?_, ?_, ?_, ?_, ?_, ?_, ?_, ?_, ?_, ?_, ?_, ?_, ?_, ?_, ?_, ?_, ?_, ?_, ?_, ?_, ?_, ?_, ?_, ?_, ?_, ?_, ?_, ?_⟩ <;> kernel_rfl
theorem tyU_26 : E.P.underlying 26 = some (.slice 9) := by kernel_rfl
theorem tyU_27 : E.P.underlying 27 = some (.slice 29) := by kernel_rfl
theorem tyU_30 : E.P.underlying 30 = some (.slice 5) := by kernel_rfl
theorem tyL :
    (∀ {H : Heap} {tys : Array TypeId} {ty : TypeId} {n : Nat} {cs : List AV}, olen E.P 26 H tys ty (.sl n cs) = some (.val (.v (goInt n)), H)) ∧
    (∀ {H : Heap} {tys : Array TypeId} {ty : TypeId} {id n : Nat}, olen E.P 26 H tys ty (.asl id n) = some (.val (.v (goInt n)), H)) ∧
    (∀ {H : Heap} {tys : Array TypeId} {ty : TypeId} {id o n : Nat}, olen E.P 26 H tys ty (.bsl id o n) = some (.val (.v (goInt n)), H)) ∧
    (∀ {H : Heap} {ty : TypeId}, olen E.P 26 H #[26] ty (.v (.slice none 0 0)) = some (.val (.v (goInt 0)), H)) ∧
    (∀ {H : Heap} {tys : Array TypeId} {ty : TypeId} {n : Nat} {cs : List AV}, olen E.P 27 H tys ty (.sl n cs) = some (.val (.v (goInt n)), H)) ∧
    (∀ {H : Heap} {tys : Array TypeId} {ty : TypeId} {id n : Nat}, olen E.P 27 H tys ty (.asl id n) = some (.val (.v (goInt n)), H)) ∧
    (∀ {H : Heap} {tys : Array TypeId} {ty : TypeId} {id o n : Nat}, olen E.P 27 H tys ty (.bsl id o n) = some (.val (.v (goInt n)), H)) ∧
    (∀ {H : Heap} {ty : TypeId}, olen E.P 27 H #[27] ty (.v (.slice none 0 0)) = some (.val (.v (goInt 0)), H)) ∧
    (∀ {H : Heap} {tys : Array TypeId} {ty : TypeId} {n : Nat} {cs : List AV}, olen E.P 30 H tys ty (.sl n cs) = some (.val (.v (goInt n)), H)) ∧
    (∀ {H : Heap} {tys : Array TypeId} {ty : TypeId} {id n : Nat}, olen E.P 30 H tys ty (.asl id n) = some (.val (.v (goInt n)), H)) ∧
    (∀ {H : Heap} {tys : Array TypeId} {ty : TypeId} {id o n : Nat}, olen E.P 30 H tys ty (.bsl id o n) = some (.val (.v (goInt n)), H)) ∧
    (∀ {H : Heap} {ty : TypeId}, olen E.P 30 H #[30] ty (.v (.slice none 0 0)) = some (.val (.v (goInt 0)), H)) := ⟨olen_sl (tyU_26), olen_asl (tyU_26), olen_bsl (tyU_26), olen_nil (tyU_26), olen_sl (tyU_27), olen_asl (tyU_27), olen_bsl (tyU_27), olen_nil (tyU_27), olen_sl (tyU_30), olen_asl (tyU_30), olen_bsl (tyU_30), olen_nil (tyU_30)⟩
end Go.AI.Jx
end

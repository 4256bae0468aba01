/- The law XmlLists: Write of a list of two values, where it does not fail, gives the two values' texts between the list's tags, for every two values of bulk at most 2^20 in all. -/
import Derived.Test.YthlogeaejcaggaaGreatDoorX5
import Derived.Test.YthlogeaejcaggaaGreatDoorC1
import Derived.Test.YthlogeaejcaggaaGreatDoorK1
import Derived.Test.YthlogeaejcaggaaGreatDoorW1
set_option linter.all false
section
set_option linter.all false
set_option maxRecDepth 100000
namespace Go.AI.Jx
open Go Go.Proofs
/-! ### xml.Write -/
noncomputable def writeR (v : VT) : AV :=
  if v.check ≠ 0 then .tup [.v (.slice none 0 0), .v (.int .i64 v.check)]
  else if (ba (xlay v)).size ≤ 65536 then .tup [.sl (ba (xlay v)).size (bytesAV (ba (xlay v))), .v (.int .i64 0)] else .tup [.v (.slice none 0 0), .v (.int .i64 2)]
theorem check_formed {v : VT} (h : v.check = 0) : VT.formed valid numCheck v = true := by
  unfold VT.check at h
  cases hf : VT.formed valid numCheck v with
  | true => rfl
  | false => rw [hf] at h; simp at h
theorem tiny_small {v : VT} (h : tiny v) : small v := by unfold small; unfold tiny at h; omega
theorem under_writeR (v : VT) : (AEnd.ret (writeR v)).under 0 = true := by
  have hb : ∀ s : ByteArray, AV.underL 0 (bytesAV s) = true := fun s => under_bytes
  unfold writeR
  split
  · rfl
  split
  · simp [AEnd.under, AV.under, AV.underL, hb]
  · rfl
theorem con16 (v : VT) (hw : v.wf) (ht : tiny v) (H : Heap) : Con E 16 [.agg v.enc] H (.ret (writeR v)) H := by
  by_cases hc : v.check = 0
  · have hg : good v := ⟨check_formed hc, hw, ht⟩
    have hlen := xlay_len v hg.1
    unfold tiny at ht
    have hO : OkH [AObj.box 29 v.enc, .box 46 [.v (.pointer none), .v (.slice none 0 0)]] := by
      have := okH_box (t := 46) (okH_box (t := 29) (H := []) rfl (enc_under v)) (show AV.underL 0 [.v (.pointer none), .v (.slice none 0 0)] = true from rfl)
      exact this
    obtain ⟨H3, row, h29, hat⟩ := con29_nil v hg (H := [.box 29 v.enc, .box 46 [.v (.pointer none), .v (.slice none 0 0)]]) (id := 1) rfl hO (by omega)
    have hR : writeR v = if (ba (xlay v)).size ≤ 65536 then .tup [.sl (ba (xlay v)).size (bytesAV (ba (xlay v))), .v (.int .i64 0)] else .tup [.v (.slice none 0 0), .v (.int .i64 2)] := by
      unfold writeR; rw [if_neg (by simpa using hc)]
    refine con_walk (n := 0) goodE mixed (told_ok ok21 (told_ok (one_ok h29) (told_ok ok23 (told_ok ok24 noCall_ok)))) code16 (encV_under v) (under_writeR v) ?_ H
    have h21 : ∀ H, told 21 s21 (told 29 (one [.ptr 1 0, .agg v.enc] [.box 29 v.enc, .box 46 [.v (.pointer none), .v (.slice none 0 0)]] (.ret (.tup [])) H3) (told 23 (specR R23) (told 24 (specR R24) noCall))) 21 [.agg v.enc] H = some (.ret (.v (.int .i64 0)), H) := fun H => by
      rw [told_self, ← hc]; exact specOf_eq (a := v) encV_inj (tiny_small hg.2.2)
    have h29' : told 21 s21 (told 29 (one [.ptr 1 0, .agg v.enc] [.box 29 v.enc, .box 46 [.v (.pointer none), .v (.slice none 0 0)]] (.ret (.tup [])) H3) (told 23 (specR R23) (told 24 (specR R24) noCall))) 29 [.ptr 1 0, .agg v.enc] [.box 29 v.enc, .box 46 [.v (.pointer none), .v (.slice none 0 0)]] = some (.ret (.tup []), H3) := by
      rw [told_ne (by decide), told_self]; exact one_self
    have h23 : told 21 s21 (told 29 (one [.ptr 1 0, .agg v.enc] [.box 29 v.enc, .box 46 [.v (.pointer none), .v (.slice none 0 0)]] (.ret (.tup [])) H3) (told 23 (specR R23) (told 24 (specR R24) noCall))) 23 [.ptr 1 0] H3 = some (.ret (.v (.int .i64 (ba (xlay v)).size)), H3) := by
      rw [told_ne (by decide), told_ne (by decide), told_self]; exact s23_at hat
    have h24 : told 21 s21 (told 29 (one [.ptr 1 0, .agg v.enc] [.box 29 v.enc, .box 46 [.v (.pointer none), .v (.slice none 0 0)]] (.ret (.tup [])) H3) (told 23 (specR R23) (told 24 (specR R24) noCall))) 24 [.ptr 1 0] H3 = some (.ret (.v (.string (ba (xlay v)))), H3.set row (.arr 5 (ba (xlay v)).size true (bytesAV (ba (xlay v))))) := by
      rw [told_ne (by decide), told_ne (by decide), told_ne (by decide), told_self]
      exact s24_at hat (by rw [ba_size]; omega) (by rw [ba_size]; omega)
    rw [hR]
    obtain ⟨k, f, ng, d, e, b, t, ns, l⟩ := v
    exact walk16_ok h21 h29' h23 h24
  · have hR : writeR v = .tup [.v (.slice none 0 0), .v (.int .i64 v.check)] := by unfold writeR; rw [if_pos hc]
    refine con_walk (n := 0) goodE mixed (told_ok ok21 noCall_ok) code16 (encV_under v) (under_writeR v) ?_ H
    rw [hR]
    have h21 : ∀ H, told 21 s21 noCall 21 [.agg v.enc] H = some (.ret (.v (.int .i64 v.check)), H) := fun H => by
      rw [told_self]; exact specOf_eq (a := v) encV_inj (tiny_small ht)
    obtain ⟨k, f, ng, d, e, b, t, ns, l⟩ := v
    exact walk16_bad hc h21
noncomputable def s16 : Spec := specOf encV (fun v => v.wf ∧ tiny v) fun v => .ret (writeR v)
theorem ok16 : SpecOk E 16 s16 := specOf_ok fun v h H => con16 v h.1 h.2 H

/-! ### A list that the law makes -/
def listV (l : List VT) : VT := .mk 7 false false ⟨#[]⟩ 0 0 ⟨#[]⟩ [] l
theorem list_rel {g : Ghost} {l : List VT} {u : Value} (r : Rel g (.agg (listA l)) u) : Rel g (.agg (VT.enc (listV l))) u := by
  cases r with
  | agg hl hr =>
    have he : VT.enc (listV l) = (listA l).set 7 (.sl 0 []) := rfl
    rw [he]
    refine .agg (by simpa using hl) fun i x u e e' => ?_
    by_cases hi : i = 7
    · subst hi
      have h7 : x = .sl 0 [] := by
        rw [List.getElem?_set_self (by simp [listA])] at e
        exact (Option.some.inj e).symm
      subst h7
      have := hr 7 (.v (.slice none 0 0)) u rfl e'
      cases this
      exact .sl (us := []) (b := 0) (o := 0) (Nat.le_refl 0) rfl (fun i x u h => by simp at h) (fun h => absurd rfl h) (fun i u h => by simp at h)
    · rw [List.getElem?_set_ne (Ne.symm hi)] at e
      exact hr i x u e e'
theorem con16_list {l : List VT} {H : Heap} {r : AEnd} (h : Con E 16 [.agg (listV l).enc] H r H) : Con E 16 [.agg (listA l)] H r H := fun g w vs I ra =>
  h g w vs I ⟨ra.1, fun i x u e e' => by
    cases i with
    | zero =>
      have e2 : x = .agg (listV l).enc := (Option.some.inj e).symm
      subst e2
      exact list_rel (ra.2 0 _ u rfl e')
    | succ i => simp at e⟩
open Classical in
noncomputable def oneH (a : List AV) (r : AEnd) (s : Spec) : Spec := fun args H => if args = a then some (r, H) else s args H
theorem oneH_self {a : List AV} {r : AEnd} {s : Spec} {H : Heap} : oneH a r s a H = some (r, H) := by unfold oneH; rw [if_pos rfl]
theorem oneH_ne {a b : List AV} {r : AEnd} {s : Spec} {H : Heap} (h : b ≠ a) : oneH a r s b H = s b H := by unfold oneH; rw [if_neg h]
theorem oneH_ok {f : FuncId} {a : List AV} {r : AEnd} {s : Spec} (h : ∀ H, Con E f a H r H) (hs : SpecOk E f s) : SpecOk E f (oneH a r s) := by
  intro args H r2 H2 e
  unfold oneH at e
  split at e
  · rename_i hx
    subst hx
    cases e
    exact h H
  · exact hs _ _ _ _ e
theorem enc_ne {v : VT} {l : List VT} : ([.agg v.enc] : List AV) ≠ [.agg (listA l)] := by
  obtain ⟨k, f, ng, d, e, b, t, ns, l⟩ := v
  intro h
  simp [VT.enc, listA] at h

/-! ### keep.Big -/
theorem con9 (v : VT) (hv : small v) : ∃ r : Bool, ∀ H, Con E 9 [.agg v.enc] H (.ret (.v (.bool r))) H := by
  obtain ⟨r, hr⟩ := big_ok noOrcE rfl rfl rfl v hv (v.need + 1) (by omega) [] rfl
  exact ⟨r, fun H => con_e noOrcE_ok (encV_under v) hr H⟩
open Classical in
noncomputable def bigB (v : VT) : Bool := if h : small v then Classical.choose (con9 v h) else false
noncomputable def s9 : Spec := specOf encV small fun v => .ret (.v (.bool (bigB v)))
theorem ok9 : SpecOk E 9 s9 := specOf_ok fun v h H => by
  have : bigB v = Classical.choose (con9 v h) := by unfold bigB; rw [dif_pos h]
  rw [this]
  exact Classical.choose_spec (con9 v h) H
theorem con18 (H : Heap) : Con E 18 [] H (.ret (.v (.bool true))) H := con_k rfl awake10 H
noncomputable def s18 : Spec := oneH [] (.ret (.v (.bool true))) fun _ _ => none
theorem ok18 : SpecOk E 18 s18 := oneH_ok con18 fun _ _ _ _ h => by cases h

/-! ### The plain law -/
theorem list_check {v w : VT} (h : (listV [v, w]).check = 0) : v.check = 0 ∧ w.check = 0 := by
  have hf := check_formed h
  have hfl := (formed_inv hf).1
  simp only [VT.formedL, Bool.and_eq_true] at hfl
  unfold VT.check at h
  rw [hf] at h
  have key : ((listV [v, w]).short = true ∧ (listV [v, w]).depth ≤ 16) ∧ (listV [v, w]).size ≤ 4096 := by
    cases hb : (!(listV [v, w]).short || decide (((listV [v, w]).depth : Int) > 16) || decide (((listV [v, w]).size : Int) > 4096)) with
    | true => rw [hb] at h; simp at h
    | false =>
      simp only [Bool.or_eq_false_iff, Bool.not_eq_false', decide_eq_false_iff_not] at hb
      refine ⟨⟨hb.1.1, by have := hb.1.2; omega⟩, by have := hb.2; omega⟩
  obtain ⟨⟨k1, k2⟩, k3⟩ := key
  simp only [listV, VT.short, VT.longL, VT.depth, VT.depthL, VT.size, VT.sizeL] at k1 k2 k3
  have s1 : v.short = true ∧ w.short = true := by
    revert k1
    cases v.short <;> cases w.short <;> simp
  have fin : ∀ x : VT, VT.formed valid numCheck x = true → x.short = true → x.depth ≤ 16 → x.size ≤ 4096 → x.check = 0 := fun x h1 h2 h3 h4 => by
    unfold VT.check
    rw [h1, h2]
    have d1 : decide ((x.depth : Int) > 16) = false := by simp; omega
    have d2 : decide ((x.size : Int) > 4096) = false := by simp; omega
    rw [d1, d2]; rfl
  exact ⟨fin v hfl.1 s1.1 (by omega) (by omega), fin w hfl.2.1 s1.2 (by omega) (by omega)⟩
theorem list_lay {v w : VT} : xlay (listV [v, w]) = [60, 108, 105, 115, 116, 62] ++ xlay v ++ xlay w ++ [60, 47, 108, 105, 115, 116, 62] := by
  simp [listV, xlay, xlayL]
theorem writeR_cases (v : VT) : (∃ c, c ≠ 0 ∧ writeR v = .tup [.v (.slice none 0 0), .v (.int .i64 c)]) ∨ (v.check = 0 ∧ (ba (xlay v)).size ≤ 65536 ∧ writeR v = .tup [.sl (ba (xlay v)).size (bytesAV (ba (xlay v))), .v (.int .i64 0)]) := by
  unfold writeR
  split
  · rename_i h; exact .inl ⟨_, h, rfl⟩
  split
  · rename_i h1 h2; exact .inr ⟨by simpa using h1, h2, rfl⟩
  · exact .inl ⟨2, by decide, rfl⟩
theorem writeR_all (v : VT) : ∃ X c, writeR v = .tup [X, .v (.int .i64 c)] := by
  rcases writeR_cases v with ⟨c, _, h⟩ | ⟨_, _, h⟩
  · exact ⟨_, _, h⟩
  · exact ⟨_, _, h⟩

theorem law7 : Law2 7 := by
  intro v w hv hw wv ww
  refine ⟨[], ?_⟩
  have sv : small v := by unfold small; omega
  have sw : small w := by unfold small; omega
  have tv : tiny v := by unfold tiny; omega
  have tw : tiny w := by unfold tiny; omega
  have hn : (listV [v, w]).need = v.need + w.need + 10 := by
    have z : (⟨#[]⟩ : ByteArray).size = 0 := rfl
    simp [listV, VT.need, VT.needL, z]
  have tl : tiny (listV [v, w]) := by unfold tiny; omega
  have wl : (listV [v, w]).wf := by
    refine ⟨by decide, by decide, by decide, wv, ww, trivial⟩
  have okc : SpecOk E 16 (oneH [.agg (listA [v, w])] (.ret (writeR (listV [v, w]))) s16) := oneH_ok (fun H => con16_list (con16 _ wl tl H)) ok16
  refine con_walk (n := 0) (call := told 9 s9 (told 16 (oneH [.agg (listA [v, w])] (.ret (writeR (listV [v, w]))) s16) (told 18 s18 noCall))) goodE mixed (told_ok ok9 (told_ok okc (told_ok ok18 noCall_ok))) code7 (by
    have := enc_under v
    have := enc_under w
    simp [AV.underL, AV.under, *]) rfl ?_ []
  generalize hcall : told 9 s9 (told 16 (oneH [.agg (listA [v, w])] (.ret (writeR (listV [v, w]))) s16) (told 18 s18 noCall)) = call
  have h9v : ∀ H, call 9 [.agg v.enc] H = some (.ret (.v (.bool (bigB v))), H) := fun H => by rw [← hcall, told_self]; exact specOf_eq (a := v) encV_inj sv
  have h9w : ∀ H, call 9 [.agg w.enc] H = some (.ret (.v (.bool (bigB w))), H) := fun H => by rw [← hcall, told_self]; exact specOf_eq (a := w) encV_inj sw
  have h18 : ∀ H, call 18 [] H = some (.ret (.v (.bool true)), H) := fun H => by rw [← hcall, told_ne (by decide), told_ne (by decide), told_self]; exact oneH_self
  have h16v : ∀ H, call 16 [.agg v.enc] H = some (.ret (writeR v), H) := fun H => by rw [← hcall, told_ne (by decide), told_self, oneH_ne enc_ne]; exact specOf_eq (a := v) encV_inj ⟨wv, tv⟩
  have h16w : ∀ H, call 16 [.agg w.enc] H = some (.ret (writeR w), H) := fun H => by rw [← hcall, told_ne (by decide), told_self, oneH_ne enc_ne]; exact specOf_eq (a := w) encV_inj ⟨ww, tw⟩
  have h16l : ∀ H, call 16 [.agg (listA [v, w])] H = some (.ret (writeR (listV [v, w])), H) := fun H => by rw [← hcall, told_ne (by decide), told_self, oneH_self]
  clear hcall okc
  obtain ⟨X1, c1, r1⟩ := writeR_all v
  obtain ⟨X2, c2, r2⟩ := writeR_all w
  cases b1 : bigB v with
  | true =>
    rw [b1] at h9v
    obtain ⟨k1, f1, ng1, d1, e1, b1, t1, ns1, l1⟩ := v
    obtain ⟨k2, f2, ng2, d2, e2, b2, t2, ns2, l2⟩ := w
    exact walk7_A h9v
  | false =>
    rw [b1] at h9v
    cases b2 : bigB w with
    | true =>
      rw [b2] at h9w
      obtain ⟨k1, f1, ng1, d1, e1, b1, t1, ns1, l1⟩ := v
      obtain ⟨k2, f2, ng2, d2, e2, b2, t2, ns2, l2⟩ := w
      exact walk7_B h9v h9w
    | false =>
      rw [b2] at h9w
      rcases writeR_cases (listV [v, w]) with ⟨c3, hc3, r3⟩ | ⟨k3, z3, r3⟩
      · rw [r3] at h16l
        rw [r1] at h16v
        rw [r2] at h16w
        have g3 : (c3 != 0) = true := by simpa using hc3
        clear r1 r2 r3 b1 b2
        obtain ⟨k1, f1, ng1, d1, e1, b1, t1, ns1, l1⟩ := v
        obtain ⟨k2, f2, ng2, d2, e2, b2, t2, ns2, l2⟩ := w
        cases g1 : (c1 != 0) <;> cases g2 : (c2 != 0)
        · exact walk7_C11 h9v h9w h18 h16v h16w h16l g1 g2 g3
        · exact walk7_C10 h9v h9w h18 h16v h16w h16l g1 g2 g3
        · exact walk7_C01 h9v h9w h18 h16v h16w h16l g1 g2 g3
        · exact walk7_C00 h9v h9w h18 h16v h16w h16l g1 g2 g3
      · obtain ⟨q1, q2⟩ := list_check k3
        have z := z3
        rw [ba_size, list_lay] at z
        simp only [List.length_append, List.length_cons, List.length_nil] at z
        have z1 : (ba (xlay v)).size ≤ 65536 := by rw [ba_size]; omega
        have z2 : (ba (xlay w)).size ≤ 65536 := by rw [ba_size]; omega
        have w1 : writeR v = .tup [.sl (ba (xlay v)).size (bytesAV (ba (xlay v))), .v (.int .i64 0)] := by unfold writeR; rw [if_neg (by simpa using q1), if_pos z1]
        have w2 : writeR w = .tup [.sl (ba (xlay w)).size (bytesAV (ba (xlay w))), .v (.int .i64 0)] := by unfold writeR; rw [if_neg (by simpa using q2), if_pos z2]
        rw [w1] at h16v
        rw [w2] at h16w
        rw [r3] at h16l
        have hs3 : ba (xlay (listV [v, w])) = (⟨#[60, 108, 105, 115, 116, 62]⟩ : ByteArray) ++ ba (xlay v) ++ ba (xlay w) ++ ⟨#[60, 47, 108, 105, 115, 116, 62]⟩ := by
          rw [list_lay, ← ba_append, ← ba_append, ← ba_append]; rfl
        clear r1 r2 r3 b1 b2 w1 w2
        generalize ba (xlay v) = s1 at *
        generalize ba (xlay w) = s2 at *
        generalize ba (xlay (listV [v, w])) = s3 at *
        obtain ⟨k1, f1, ng1, d1, e1, b1, t1, ns1, l1⟩ := v
        obtain ⟨k2, f2, ng2, d2, e2, b2, t2, ns2, l2⟩ := w
        exact walk7_D z1 z2 hs3 h9v h9w h18 h16v h16w h16l
end Go.AI.Jx
end
namespace Go.Proofs.YthlogeaejcaggaaGreatDoor
/-- The law holds. -/
theorem xmlListsHolds : Rows.XmlListsUptoCardSaid := Go.AI.Jx.card7 Go.AI.Jx.law7
end Go.Proofs.YthlogeaejcaggaaGreatDoor

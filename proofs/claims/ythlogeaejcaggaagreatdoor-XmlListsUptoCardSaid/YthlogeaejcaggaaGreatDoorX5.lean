/- A part of the proof: JxItoa, JxPrintCon, JxXmlOut, JxXmlCon, JxXmlLay, JxXmlLay2, JxXmlLay3, JxXmlWrite, JxLaw7. -/
import Derived.Test.YthlogeaejcaggaaGreatDoorI0
import Derived.Test.YthlogeaejcaggaaGreatDoorI1
import Derived.Test.YthlogeaejcaggaaGreatDoorI2
import Derived.Test.YthlogeaejcaggaaGreatDoorI3
import Derived.Test.YthlogeaejcaggaaGreatDoorI4
import Derived.Test.YthlogeaejcaggaaGreatDoorI5
import Derived.Test.YthlogeaejcaggaaGreatDoorI6
import Derived.Test.YthlogeaejcaggaaGreatDoorI7
import Derived.Test.YthlogeaejcaggaaGreatDoorI8
import Derived.Test.YthlogeaejcaggaaGreatDoorX4
import Derived.Test.YthlogeaejcaggaaGreatDoorW1
set_option linter.all false
section
set_option linter.all false
namespace Go.AI.Jx
open Go Go.Proofs
theorem itoa77 (c : Nat) (hc : c < 900) : gives 60 77 [.v (.int .i64 ((c : Nat) - 450 : Int))] (.v (.string (ba (intDigits ((c : Nat) - 450 : Int))))) := by
  have key : ∀ (k : Nat) (P : Nat → Bool), (List.range 25).all P = true → (∀ c, P c = true → gives 60 77 [.v (.int .i64 ((c + k : Nat) - 450 : Int))] (.v (.string (ba (intDigits ((c + k : Nat) - 450 : Int)))))) → k ≤ c → c < k + 25 → gives 60 77 [.v (.int .i64 ((c : Nat) - 450 : Int))] (.v (.string (ba (intDigits ((c : Nat) - 450 : Int))))) := by
    intro k P h hP hk hi
    have := hP _ (List.all_eq_true.1 h (c - k) (List.mem_range.2 (by omega)))
    rw [show c - k + k = c by omega] at this
    exact this
  by_cases h0_0 : c < 25
  · refine key 0 _ itoa77_0_0 (fun c h => ?_) (by omega) (by omega)
    unfold gives
    split at h
    · rename_i y hy
      rw [hy]
      exact h
    · cases h
  by_cases h0_1 : c < 50
  · refine key 25 _ itoa77_0_1 (fun c h => ?_) (by omega) (by omega)
    unfold gives
    split at h
    · rename_i y hy
      rw [hy]
      exact h
    · cases h
  by_cases h0_2 : c < 75
  · refine key 50 _ itoa77_0_2 (fun c h => ?_) (by omega) (by omega)
    unfold gives
    split at h
    · rename_i y hy
      rw [hy]
      exact h
    · cases h
  by_cases h0_3 : c < 100
  · refine key 75 _ itoa77_0_3 (fun c h => ?_) (by omega) (by omega)
    unfold gives
    split at h
    · rename_i y hy
      rw [hy]
      exact h
    · cases h
  by_cases h1_0 : c < 125
  · refine key 100 _ itoa77_1_0 (fun c h => ?_) (by omega) (by omega)
    unfold gives
    split at h
    · rename_i y hy
      rw [hy]
      exact h
    · cases h
  by_cases h1_1 : c < 150
  · refine key 125 _ itoa77_1_1 (fun c h => ?_) (by omega) (by omega)
    unfold gives
    split at h
    · rename_i y hy
      rw [hy]
      exact h
    · cases h
  by_cases h1_2 : c < 175
  · refine key 150 _ itoa77_1_2 (fun c h => ?_) (by omega) (by omega)
    unfold gives
    split at h
    · rename_i y hy
      rw [hy]
      exact h
    · cases h
  by_cases h1_3 : c < 200
  · refine key 175 _ itoa77_1_3 (fun c h => ?_) (by omega) (by omega)
    unfold gives
    split at h
    · rename_i y hy
      rw [hy]
      exact h
    · cases h
  by_cases h2_0 : c < 225
  · refine key 200 _ itoa77_2_0 (fun c h => ?_) (by omega) (by omega)
    unfold gives
    split at h
    · rename_i y hy
      rw [hy]
      exact h
    · cases h
  by_cases h2_1 : c < 250
  · refine key 225 _ itoa77_2_1 (fun c h => ?_) (by omega) (by omega)
    unfold gives
    split at h
    · rename_i y hy
      rw [hy]
      exact h
    · cases h
  by_cases h2_2 : c < 275
  · refine key 250 _ itoa77_2_2 (fun c h => ?_) (by omega) (by omega)
    unfold gives
    split at h
    · rename_i y hy
      rw [hy]
      exact h
    · cases h
  by_cases h2_3 : c < 300
  · refine key 275 _ itoa77_2_3 (fun c h => ?_) (by omega) (by omega)
    unfold gives
    split at h
    · rename_i y hy
      rw [hy]
      exact h
    · cases h
  by_cases h3_0 : c < 325
  · refine key 300 _ itoa77_3_0 (fun c h => ?_) (by omega) (by omega)
    unfold gives
    split at h
    · rename_i y hy
      rw [hy]
      exact h
    · cases h
  by_cases h3_1 : c < 350
  · refine key 325 _ itoa77_3_1 (fun c h => ?_) (by omega) (by omega)
    unfold gives
    split at h
    · rename_i y hy
      rw [hy]
      exact h
    · cases h
  by_cases h3_2 : c < 375
  · refine key 350 _ itoa77_3_2 (fun c h => ?_) (by omega) (by omega)
    unfold gives
    split at h
    · rename_i y hy
      rw [hy]
      exact h
    · cases h
  by_cases h3_3 : c < 400
  · refine key 375 _ itoa77_3_3 (fun c h => ?_) (by omega) (by omega)
    unfold gives
    split at h
    · rename_i y hy
      rw [hy]
      exact h
    · cases h
  by_cases h4_0 : c < 425
  · refine key 400 _ itoa77_4_0 (fun c h => ?_) (by omega) (by omega)
    unfold gives
    split at h
    · rename_i y hy
      rw [hy]
      exact h
    · cases h
  by_cases h4_1 : c < 450
  · refine key 425 _ itoa77_4_1 (fun c h => ?_) (by omega) (by omega)
    unfold gives
    split at h
    · rename_i y hy
      rw [hy]
      exact h
    · cases h
  by_cases h4_2 : c < 475
  · refine key 450 _ itoa77_4_2 (fun c h => ?_) (by omega) (by omega)
    unfold gives
    split at h
    · rename_i y hy
      rw [hy]
      exact h
    · cases h
  by_cases h4_3 : c < 500
  · refine key 475 _ itoa77_4_3 (fun c h => ?_) (by omega) (by omega)
    unfold gives
    split at h
    · rename_i y hy
      rw [hy]
      exact h
    · cases h
  by_cases h5_0 : c < 525
  · refine key 500 _ itoa77_5_0 (fun c h => ?_) (by omega) (by omega)
    unfold gives
    split at h
    · rename_i y hy
      rw [hy]
      exact h
    · cases h
  by_cases h5_1 : c < 550
  · refine key 525 _ itoa77_5_1 (fun c h => ?_) (by omega) (by omega)
    unfold gives
    split at h
    · rename_i y hy
      rw [hy]
      exact h
    · cases h
  by_cases h5_2 : c < 575
  · refine key 550 _ itoa77_5_2 (fun c h => ?_) (by omega) (by omega)
    unfold gives
    split at h
    · rename_i y hy
      rw [hy]
      exact h
    · cases h
  by_cases h5_3 : c < 600
  · refine key 575 _ itoa77_5_3 (fun c h => ?_) (by omega) (by omega)
    unfold gives
    split at h
    · rename_i y hy
      rw [hy]
      exact h
    · cases h
  by_cases h6_0 : c < 625
  · refine key 600 _ itoa77_6_0 (fun c h => ?_) (by omega) (by omega)
    unfold gives
    split at h
    · rename_i y hy
      rw [hy]
      exact h
    · cases h
  by_cases h6_1 : c < 650
  · refine key 625 _ itoa77_6_1 (fun c h => ?_) (by omega) (by omega)
    unfold gives
    split at h
    · rename_i y hy
      rw [hy]
      exact h
    · cases h
  by_cases h6_2 : c < 675
  · refine key 650 _ itoa77_6_2 (fun c h => ?_) (by omega) (by omega)
    unfold gives
    split at h
    · rename_i y hy
      rw [hy]
      exact h
    · cases h
  by_cases h6_3 : c < 700
  · refine key 675 _ itoa77_6_3 (fun c h => ?_) (by omega) (by omega)
    unfold gives
    split at h
    · rename_i y hy
      rw [hy]
      exact h
    · cases h
  by_cases h7_0 : c < 725
  · refine key 700 _ itoa77_7_0 (fun c h => ?_) (by omega) (by omega)
    unfold gives
    split at h
    · rename_i y hy
      rw [hy]
      exact h
    · cases h
  by_cases h7_1 : c < 750
  · refine key 725 _ itoa77_7_1 (fun c h => ?_) (by omega) (by omega)
    unfold gives
    split at h
    · rename_i y hy
      rw [hy]
      exact h
    · cases h
  by_cases h7_2 : c < 775
  · refine key 750 _ itoa77_7_2 (fun c h => ?_) (by omega) (by omega)
    unfold gives
    split at h
    · rename_i y hy
      rw [hy]
      exact h
    · cases h
  by_cases h7_3 : c < 800
  · refine key 775 _ itoa77_7_3 (fun c h => ?_) (by omega) (by omega)
    unfold gives
    split at h
    · rename_i y hy
      rw [hy]
      exact h
    · cases h
  by_cases h8_0 : c < 825
  · refine key 800 _ itoa77_8_0 (fun c h => ?_) (by omega) (by omega)
    unfold gives
    split at h
    · rename_i y hy
      rw [hy]
      exact h
    · cases h
  by_cases h8_1 : c < 850
  · refine key 825 _ itoa77_8_1 (fun c h => ?_) (by omega) (by omega)
    unfold gives
    split at h
    · rename_i y hy
      rw [hy]
      exact h
    · cases h
  by_cases h8_2 : c < 875
  · refine key 850 _ itoa77_8_2 (fun c h => ?_) (by omega) (by omega)
    unfold gives
    split at h
    · rename_i y hy
      rw [hy]
      exact h
    · cases h
  by_cases h8_3 : c < 900
  · refine key 875 _ itoa77_8_3 (fun c h => ?_) (by omega) (by omega)
    unfold gives
    split at h
    · rename_i y hy
      rw [hy]
      exact h
    · cases h
  omega
end Go.AI.Jx
end
section
set_option linter.all false
set_option maxRecDepth 100000
namespace Go.AI.Jx
open Go Go.Proofs
theorem con76 (c : Nat) (hc : c < 23) (H : Heap) : Con E 76 [.v (.string ⟨#[48]⟩), .v (.int .i64 (c : Nat))] H (.ret (.v (.string (ba (List.replicate c 48))))) H := gives_con (rep76 c hc) rfl H
theorem con91 (c : Nat) (hc : c < 32) (H : Heap) : Con E 91 [.v (.int .i64 (c : Nat)), .v (.int .i64 16)] H (.ret (.v (.string (ba (smallHex.getD c []))))) H := gives_con (fmt91 c hc) rfl H
theorem con38 (b : Bool) (H : Heap) : Con E 38 [.v (.bool b)] H (.ret (.v (.string (ba (boolS b))))) H := gives_con (fmt38 b) rfl H
theorem con77 (z : Int) (h0 : -450 ≤ z) (h1 : z < 450) (H : Heap) : Con E 77 [.v (.int .i64 z)] H (.ret (.v (.string (ba (intDigits z))))) H := by
  have := itoa77 (z + 450).toNat (by omega)
  have e : (((z + 450).toNat : Nat) - 450 : Int) = z := by omega
  rw [e] at this
  exact gives_con this rfl H
def enc76 (c : Nat) : List AV := [.v (.string ⟨#[48]⟩), .v (.int .i64 (c : Nat))]
theorem enc76_inj (a b : Nat) (h : enc76 a = enc76 b) : a = b := by
  simp only [enc76, List.cons.injEq, AV.v.injEq, Value.int.injEq, true_and, and_true] at h
  omega
def enc91 (c : Nat) : List AV := [.v (.int .i64 (c : Nat)), .v (.int .i64 16)]
theorem enc91_inj (a b : Nat) (h : enc91 a = enc91 b) : a = b := by
  simp only [enc91, List.cons.injEq, AV.v.injEq, Value.int.injEq, true_and, and_true] at h
  omega
def encB (b : Bool) : List AV := [.v (.bool b)]
theorem encB_inj (a b : Bool) (h : encB a = encB b) : a = b := by
  simpa only [encB, List.cons.injEq, AV.v.injEq, Value.bool.injEq, true_and, and_true] using h
def encI (z : Int) : List AV := [.v (.int .i64 z)]
theorem encI_inj (a b : Int) (h : encI a = encI b) : a = b := by
  simpa only [encI, List.cons.injEq, AV.v.injEq, Value.int.injEq, true_and, and_true] using h
noncomputable def s76 : Spec := specOf enc76 (fun c => c < 23) fun c => .ret (.v (.string (ba (List.replicate c 48))))
theorem ok76 : SpecOk E 76 s76 := specOf_ok fun c h H => con76 c h H
noncomputable def s91 : Spec := specOf enc91 (fun c => c < 32) fun c => .ret (.v (.string (ba (smallHex.getD c []))))
theorem ok91 : SpecOk E 91 s91 := specOf_ok fun c h H => con91 c h H
noncomputable def s38 : Spec := specOf encB (fun _ => True) fun b => .ret (.v (.string (ba (boolS b))))
theorem ok38 : SpecOk E 38 s38 := specOf_ok fun c h H => con38 c H
noncomputable def s77 : Spec := specOf encI (fun z => -450 ≤ z ∧ z < 450) fun z => .ret (.v (.string (ba (intDigits z))))
theorem ok77 : SpecOk E 77 s77 := specOf_ok fun c h H => con77 c h.1 h.2 H

/-- A number, as it is printed. -/
def sgn (ng : Bool) : List UInt8 := if ng then [45] else []
def printL (ng : Bool) (l : List UInt8) (x : Int) : List UInt8 :=
  if 0 ≤ x ∧ (l.length : Int) + x ≤ 21 then sgn ng ++ l ++ List.replicate x.toNat 48
  else if x < 0 ∧ -21 ≤ x then sgn ng ++ (List.replicate (padN l x) 48 ++ l).take (((List.replicate (padN l x) 48 ++ l).length : Int) + x).toNat ++ [46] ++ (List.replicate (padN l x) 48 ++ l).drop (((List.replicate (padN l x) 48 ++ l).length : Int) + x).toNat
  else sgn ng ++ l.take 1 ++ (if l.length = 1 then [] else [46]) ++ l.drop 1 ++ [101] ++ intDigits (x + (l.length : Int) - 1)
theorem numCheck_zero {ng : Bool} {d : ByteArray} {e : Int} (h : numCheck ng d e = 0) : (1 ≤ d.data.toList.length ∧ d.data.toList.length ≤ 40) ∧ (-400 ≤ e ∧ e ≤ 400) := by
  unfold numCheck at h
  cases hz : (ng == false && d == ⟨#[48]⟩ && e == 0) with
  | true =>
    simp only [Bool.and_eq_true, beq_iff_eq] at hz
    obtain ⟨⟨_, h1⟩, rfl⟩ := hz
    obtain ⟨a⟩ := d
    have h2 : (a == #[48]) = true := h1
    rw [beq_iff_eq] at h2
    subst h2
    decide
  | false =>
    rw [hz] at h
    simp only [cond_false] at h
    cases hb : (!digitsB d || decide ((d.size : Int) > 40) || ((d.data.toList.headD 0).toNat : Int) == 48 || suffixB d ⟨#[48]⟩ || decide (e < -400) || decide (e > 400)) with
    | true => rw [hb] at h; cases h
    | false =>
      simp only [Bool.or_eq_false_iff, decide_eq_false_iff_not, Bool.not_eq_false'] at hb
      have hne : d ≠ ⟨#[]⟩ := by
        intro h0
        have := hb.1.1.1.1.1
        unfold digitsB at this
        simp [h0] at this
      have hsz : d.size ≠ 0 := fun h0 => hne (by
        apply ByteArray.ext
        exact Array.size_eq_zero_iff.1 h0)
      have hl : d.data.toList.length = d.size := rfl
      rw [hl]
      omega
theorem sgn_len (ng : Bool) : (sgn ng).length ≤ 1 := by cases ng <;> decide
theorem printL_len {ng : Bool} {l : List UInt8} {x : Int} (hl : 1 ≤ l.length ∧ l.length ≤ 40) (hx : -400 ≤ x ∧ x ≤ 400) : 1 ≤ (printL ng l x).length ∧ (printL ng l x).length ≤ 100 := by
  have h1 := sgn_len ng
  have h2 := intDigits_len (x + (l.length : Int) - 1)
  unfold printL
  split
  · simp only [List.length_append, List.length_replicate]; omega
  split
  · rename_i h3 h4
    have : padN l x ≤ 22 := by unfold padN; omega
    simp only [List.length_append, List.length_take, List.length_drop, List.length_replicate, List.length_cons, List.length_nil]
    omega
  · have : (if l.length = 1 then ([] : List UInt8) else [46]).length ≤ 1 := by split <;> simp
    simp only [List.length_append, List.length_take, List.length_drop, List.length_cons, List.length_nil]
    omega
theorem con39 (ng : Bool) (d : ByteArray) (e : Int) (h : numCheck ng d e = 0) (H : Heap) : Con E 39 [.agg [.v (.bool ng), .v (.string d), .v (.int .i64 e)]] H (.ret (.tup [.v (.string (ba (printL ng d.data.toList e))), .v (.int .i64 0)])) H := by
  obtain ⟨hl, hx⟩ := numCheck_zero h
  obtain ⟨l, rfl⟩ : ∃ l, d = ba l := ⟨d.data.toList, ba_self.symm⟩
  rw [ba_data] at hl ⊢
  refine con_walk (n := 0) goodE mixed (told_ok ok66 (told_ok ok76 (told_ok ok77 noCall_ok))) code39 rfl rfl ?_ H
  have h66 : ∀ H, told 66 s66 (told 76 s76 (told 77 s77 noCall)) 66 [.agg [.v (.bool ng), .v (.string (ba l)), .v (.int .i64 e)]] H = some (.ret (.v (.int .i64 0)), H) := fun H => by
    rw [told_self, ← h]
    exact specOf_eq (a := (ng, ba l, e)) enc24_inj (by show (ba l).size ≤ 2 ^ 46; rw [ba_size]; omega)
  have h76 : ∀ c < 23, ∀ H, told 66 s66 (told 76 s76 (told 77 s77 noCall)) 76 [.v (.string (ba [48])), .v (.int .i64 (c : Nat))] H = some (.ret (.v (.string (ba (List.replicate c 48)))), H) := fun c hc H => by
    rw [told_ne (by decide), told_self]
    exact specOf_eq (a := c) enc76_inj hc
  have h77 : ∀ z : Int, -450 ≤ z → z < 450 → ∀ H, told 66 s66 (told 76 s76 (told 77 s77 noCall)) 77 [.v (.int .i64 z)] H = some (.ret (.v (.string (ba (intDigits z)))), H) := fun z h0 h1 H => by
    rw [told_ne (by decide), told_ne (by decide), told_self]
    exact specOf_eq (a := z) encI_inj ⟨h0, h1⟩
  unfold printL
  split
  · rename_i hxx
    cases ng
    · exact walk39A_false (n := 0) l e hl hx h66 h76 h77 hxx
    · exact walk39A_true (n := 0) l e hl hx h66 h76 h77 hxx
  split
  · rename_i _ hxx
    cases ng
    · exact walk39B_false (n := 0) l e hl hx h66 h76 h77 hxx
    · exact walk39B_true (n := 0) l e hl hx h66 h76 h77 hxx
  · rename_i n1 n2
    by_cases hk : l.length = 1
    · rw [if_pos hk]
      by_cases h0 : 0 ≤ e
      · cases ng
        · exact walk39C1p_false (n := 0) l e hl hx h66 h76 h77 hk ⟨h0, by omega⟩
        · exact walk39C1p_true (n := 0) l e hl hx h66 h76 h77 hk ⟨h0, by omega⟩
      · cases ng
        · exact walk39C1n_false (n := 0) l e hl hx h66 h76 h77 hk (by omega)
        · exact walk39C1n_true (n := 0) l e hl hx h66 h76 h77 hk (by omega)
    · rw [if_neg hk]
      by_cases h0 : 0 ≤ e
      · cases ng
        · exact walk39C2p_false (n := 0) l e hl hx h66 h76 h77 (by omega) ⟨h0, by omega⟩
        · exact walk39C2p_true (n := 0) l e hl hx h66 h76 h77 (by omega) ⟨h0, by omega⟩
      · cases ng
        · exact walk39C2n_false (n := 0) l e hl hx h66 h76 h77 (by omega) (by omega)
        · exact walk39C2n_true (n := 0) l e hl hx h66 h76 h77 (by omega) (by omega)
noncomputable def s39 : Spec := specOf enc24 (fun p => numCheck p.1 p.2.1 p.2.2 = 0) fun p => .ret (.tup [.v (.string (ba (printL p.1 p.2.1.data.toList p.2.2))), .v (.int .i64 0)])
theorem ok39 : SpecOk E 39 s39 := specOf_ok fun p h H => con39 p.1 p.2.1 p.2.2 h H
end Go.AI.Jx
end
section
set_option linter.all false
set_option maxRecDepth 100000
namespace Go.AI.Jx
open Go Go.Proofs
/-! ### A value, as it is written -/
def xname (m nm o : List UInt8) : List UInt8 := [60] ++ m ++ [32, 110, 97, 109, 101, 61, 34] ++ xchars nm ++ [34, 62] ++ o ++ ([60, 47] ++ m ++ [62])
def xField : List UInt8 := [102, 105, 101, 108, 100]
def xTag : List UInt8 := [116, 97, 103]
mutual
def xlay : VT → List UInt8
  | .mk k f n d e b t ns l =>
    if k = 1 then [60, 110, 117, 108, 108, 47, 62] else
    if k = 2 then [60] ++ boolS f ++ [47, 62] else
    if k = 3 then xplain [110, 117, 109] (printL n d.data.toList e) else
    if k = 4 then xplain [102, 108, 111, 97, 116] (hex16 b.toNat) else
    if k = 5 then [60, 116, 101, 120, 116, 62] ++ xchars t.data.toList ++ [60, 47, 116, 101, 120, 116, 62] else
    if k = 6 then xplain [98, 121, 116, 101, 115] (hexS t.data.toList) else
    if k = 7 then [60, 108, 105, 115, 116, 62] ++ xlayL l ++ [60, 47, 108, 105, 115, 116, 62] else
    if k = 8 then [60, 114, 101, 99, 111, 114, 100, 62] ++ xlayF ns l ++ [60, 47, 114, 101, 99, 111, 114, 100, 62] else
    if k = 9 then xname xTag t.data.toList (xlayL l) else []
def xlayL : List VT → List UInt8
  | [] => []
  | v :: l => xlay v ++ xlayL l
def xlayF : List ByteArray → List VT → List UInt8
  | nm :: ns, v :: l => xname xField nm.data.toList (xlay v) ++ xlayF ns l
  | _, _ => []
end
theorem xlayL_eq : ∀ l : List VT, xlayL l = l.flatMap xlay
  | [] => by simp [xlayL]
  | v :: l => by simp [xlayL, xlayL_eq l]
theorem xlayF_eq : ∀ (ns : List ByteArray) (l : List VT), xlayF ns l = (ns.zip l).flatMap fun p => xname xField p.1.data.toList (xlay p.2)
  | [], l => by simp [xlayF]
  | nm :: ns, [] => by simp [xlayF]
  | nm :: ns, v :: l => by simp [xlayF, xlayF_eq ns l]

/-! ### What a formed value is made of -/
theorem formed_inv {k f ng d e b t ns l} (h : VT.formed valid numCheck (.mk k f ng d e b t ns l) = true) :
    VT.formedL valid numCheck l = true ∧ (k = 1 ∨ k = 2 ∨ (k = 3 ∧ numCheck ng d e = 0) ∨ k = 4 ∨ k = 5 ∨ k = 6 ∨ k = 7 ∨ (k = 8 ∧ ns.length = l.length) ∨ (k = 9 ∧ l.length = 1)) := by
  unfold VT.formed at h
  by_cases h1 : k = 1
  · subst h1; simp at h; exact ⟨h.2, .inl rfl⟩
  by_cases h2 : k = 2
  · subst h2; simp at h; exact ⟨h.2, .inr (.inl rfl)⟩
  by_cases h3 : k = 3
  · subst h3; simp [own] at h; exact ⟨h.2, by simp; omega⟩
  by_cases h4 : k = 4
  · subst h4; simp at h; exact ⟨h.2, by simp⟩
  by_cases h5 : k = 5
  · subst h5; simp at h; exact ⟨h.2, by simp⟩
  by_cases h6 : k = 6
  · subst h6; simp at h; exact ⟨h.2, by simp⟩
  by_cases h7 : k = 7
  · subst h7; simp at h; exact ⟨h.2, by simp⟩
  by_cases h8 : k = 8
  · subst h8; simp [own] at h; exact ⟨h.2, by simp; omega⟩
  by_cases h9 : k = 9
  · subst h9; simp [own] at h; exact ⟨h.2, by simp; omega⟩
  · have e1 : (k == 1) = false := by simpa using h1
    have e2 : (k == 2) = false := by simpa using h2
    have e3 : (k == 3) = false := by simpa using h3
    have e4 : (k == 4) = false := by simpa using h4
    have e5 : (k == 5) = false := by simpa using h5
    have e6 : (k == 6) = false := by simpa using h6
    have e7 : (k == 7) = false := by simpa using h7
    have e8 : (k == 8) = false := by simpa using h8
    have e9 : (k == 9) = false := by simpa using h9
    simp [e1, e2, e3, e4, e5, e6, e7, e8, e9] at h
theorem formed_mem : ∀ {l : List VT}, VT.formedL valid numCheck l = true → ∀ x ∈ l, VT.formed valid numCheck x = true
  | [], _, x, h => by simp at h
  | v :: l, h, x, hx => by
    simp only [VT.formedL, Bool.and_eq_true] at h
    rcases List.mem_cons.1 hx with rfl | hx
    · exact h.1
    · exact formed_mem h.2 x hx

/-! ### Lengths -/
theorem hex16_len (u : Nat) : (hex16 u).length = 16 := by
  have := hexL_length u
  unfold hex16
  rw [List.length_append, List.length_replicate]; omega
theorem data_len {s : ByteArray} : s.data.toList.length = s.size := rfl
theorem xname_len {m nm o : List UInt8} (hm : m.length ≤ 5) : (xname m nm o).length ≤ 6 * nm.length + o.length + 23 := by
  have := xchars_len nm
  unfold xname
  simp only [List.length_append, List.length_cons, List.length_nil]
  omega
mutual
theorem xlay_len : ∀ v : VT, VT.formed valid numCheck v = true → 1 ≤ (xlay v).length ∧ (xlay v).length ≤ 64 * v.need
  | .mk k f n d e b t ns l, h => by
    obtain ⟨hl, hk⟩ := formed_inv h
    have h1 := xlayL_len l hl
    have h2 := xlayF_len ns l hl
    have h3 := xchars_len t.data.toList
    have h4 := hexS_len t.data.toList
    have h5 := hex16_len b.toNat
    have h6 : (boolS f).length ≤ 5 := by cases f <;> decide
    have h7 := @xname_len xTag t.data.toList (xlayL l) (by decide)
    rw [data_len] at h3 h4 h7
    have hn : (VT.mk k f n d e b t ns l).need = VT.needL l + l.length + ns.length + (ns.map ByteArray.size).sum + t.size + d.size + 8 := by simp only [VT.need]
    rw [hn]
    rcases hk with rfl | rfl | ⟨rfl, h0⟩ | rfl | rfl | rfl | rfl | ⟨rfl, h0⟩ | ⟨rfl, h0⟩
    · simp [xlay]; omega
    · simp only [xlay]; simp; omega
    · obtain ⟨g1, g2⟩ := numCheck_zero h0
      have g3 := printL_len (ng := n) g1 g2
      simp only [xlay, xplain]; simp; omega
    · simp only [xlay, xplain]; simp; omega
    · simp only [xlay]; simp; omega
    · simp only [xlay, xplain]; simp; omega
    · simp only [xlay]; simp; omega
    · simp only [xlay]; simp; omega
    · refine ⟨?_, ?_⟩
      · simp only [xlay, xname]; simp
      · simp only [xlay]; simp; omega
theorem xlayL_len : ∀ l : List VT, VT.formedL valid numCheck l = true → (xlayL l).length ≤ 64 * VT.needL l
  | [], _ => by simp [xlayL]
  | v :: l, h => by
    simp only [VT.formedL, Bool.and_eq_true] at h
    have h1 := xlay_len v h.1
    have h2 := xlayL_len l h.2
    simp only [xlayL, VT.needL, List.length_append]
    omega
theorem xlayF_len : ∀ (ns : List ByteArray) (l : List VT), VT.formedL valid numCheck l = true → (xlayF ns l).length ≤ 64 * VT.needL l + 23 * l.length + 6 * (ns.map ByteArray.size).sum
  | [], l, _ => by simp [xlayF]
  | nm :: ns, [], _ => by simp [xlayF]
  | nm :: ns, v :: l, h => by
    simp only [VT.formedL, Bool.and_eq_true] at h
    have h1 := xlay_len v h.1
    have h2 := xlayF_len ns l h.2
    have h3 := @xname_len xField nm.data.toList (xlay v) (by decide)
    rw [data_len] at h3
    simp only [xlayF, VT.needL, List.length_append, List.map_cons, List.sum_cons, List.length_cons]
    omega
end
end Go.AI.Jx
end
section
set_option linter.all false
set_option maxRecDepth 100000
namespace Go.AI.Jx
open Go Go.Proofs
/-! ### Heaps that differ in a Builder's text alone -/
theorem under_row {n : Nat} : ∀ l : List AV, (∀ x ∈ l, x.under 0 = true) → AV.underL n l = true
  | [], _ => rfl
  | x :: l, h => by
    have h1 := under_mono (Nat.zero_le n) x (h x (by simp))
    have h2 := under_row (n := n) l fun y hy => h y (by simp [hy])
    simp [AV.underL, h1, h2]
theorem under_bytes {s : ByteArray} {n : Nat} : AV.underL n (bytesAV s) = true := under_row _ fun x hx => by
  simp only [bytesAV, List.mem_map] at hx
  obtain ⟨b, _, rfl⟩ := hx
  rfl
theorem okH_set {H : Heap} (h : OkH H) {i : Nat} {o : AObj} (ho : o.under H.length = true) : OkH (H.set i o) := by
  unfold OkH at *
  rw [List.length_set, List.all_eq_true]
  intro x hx
  rcases List.mem_or_eq_of_mem_set hx with hx | rfl
  · exact List.all_eq_true.1 h x hx
  · exact ho
theorem okH_bput {H : Heap} {id row : Nat} {s t : ByteArray} (h : OkH H) (hb : BAt H id row s) : OkH (bput H id row t) := by
  obtain ⟨l1, l2⟩ := hb.lt
  unfold bput
  refine okH_set (okH_set h ?_) ?_
  · simp [AObj.under, AV.underL, AV.under, l1, l2]
  · simpa [AObj.under] using under_bytes
theorem okH_arr {H : Heap} {s : ByteArray} {fz : Bool} {n : Nat} (h : OkH H) : OkH (H ++ [.arr 5 n fz (bytesAV s)]) := okH_push h (by simpa [AObj.under] using under_bytes)
theorem okH_rowH {H : Heap} {l : List UInt8} (h : OkH H) : OkH (rowH H l) := by
  unfold rowH
  split
  · exact h
  · rw [← bytesAV_ba]; exact okH_arr h
theorem okH_bnil {H : Heap} {id : Nat} {s : ByteArray} (h : OkH H) (hb : BNil H id) : OkH (bnil H id s) := by
  have l1 : id < H.length := (List.getElem?_eq_some_iff.1 hb).1
  unfold bnil OkH at *
  rw [List.length_append, List.length_set]
  simp only [List.length_cons, List.length_nil, Nat.zero_add]
  rw [List.all_append, Bool.and_eq_true]
  refine ⟨List.all_eq_true.2 fun x hx => ?_, by simpa [AObj.under] using under_bytes⟩
  rcases List.mem_or_eq_of_mem_set hx with hx | rfl
  · exact obj_under_mono (by omega) x (List.all_eq_true.1 h x hx)
  · simp [AObj.under, AV.underL, AV.under]; omega
theorem bnil_at {H : Heap} {id : Nat} {s : ByteArray} (hb : BNil H id) : BAt (bnil H id s) id H.length s := by
  have l1 : id < H.length := (List.getElem?_eq_some_iff.1 hb).1
  unfold bnil
  constructor
  · rw [List.getElem?_append_left (by simpa using l1), List.getElem?_set_self l1]
  · rw [List.getElem?_append_right (by simp)]; simp
theorem bnil_bput {H : Heap} {id : Nat} {s t : ByteArray} (hb : BNil H id) : bput (bnil H id s) id H.length t = bnil H id t := by
  have l1 : id < H.length := (List.getElem?_eq_some_iff.1 hb).1
  unfold bnil bput
  rw [List.set_append_left _ _ (by simpa using l1), List.set_set, List.set_append_right _ _ (by simp)]
  simp

/-- A family of heaps: the same but for the Builder's text. -/
structure Fam (id row : Nat) (HB : ByteArray → Heap) : Prop where
  at_ : ∀ s, BAt (HB s) id row s
  put : ∀ s t, bput (HB s) id row t = HB t
theorem fam_of {H : Heap} {id row : Nat} {s : ByteArray} (h : BAt H id row s) : Fam id row (bput H id row) := ⟨fun s => bput_at h, fun s t => bput_bput h⟩
theorem Fam.push {id row : Nat} {HB : ByteArray → Heap} (F : Fam id row HB) (ext : Heap) : Fam id row fun s => HB s ++ ext := ⟨fun s => (F.at_ s).push ext, fun s t => by rw [bput_push (F.at_ s), F.put]⟩
theorem Fam.ok {id row : Nat} {HB : ByteArray → Heap} (F : Fam id row HB) {s s' : ByteArray} (h : OkH (HB s)) : OkH (HB s') := by
  rw [← F.put s s']; exact okH_bput h (F.at_ s)
theorem Fam.cell {id row : Nat} {HB : ByteArray → Heap} (F : Fam id row HB) {s : ByteArray} {L : Nat} {o : AObj} (h : (HB s)[L]? = some o) (h1 : L ≠ id) (h2 : L ≠ row) (t : ByteArray) : (HB t)[L]? = some o := by
  rw [← F.put s t]
  unfold bput
  rw [List.getElem?_set_ne (Ne.symm h2), List.getElem?_set_ne (Ne.symm h1), h]
theorem Fam.w37 {id row : Nat} {HB : ByteArray → Heap} (F : Fam id row HB) {s : ByteArray} {t : List UInt8} (hs : s.size + t.length ≤ 2 ^ 46) : specR R37 [.ptr id 0, .v (.string (ba t))] (HB s) = some (.ret (.tup [.v (.int .i64 (ba t).size), .v .nilIface]), HB (s ++ ba t)) := by
  rw [s37_at (F.at_ s) (by rw [ba_size]; exact hs), F.put]
theorem Fam.w43 {id row : Nat} {HB : ByteArray → Heap} (F : Fam id row HB) {s : ByteArray} {c : UInt8} (hs : s.size + 1 ≤ 2 ^ 46) : specR R43 [.ptr id 0, .v (.int .u8 c.toNat)] (HB s) = some (.ret (.v .nilIface), HB (s ++ ba [c])) := by
  rw [s43_at (F.at_ s) hs, F.put]
  rfl

/-! ### Functions that write -/
section
variable {α : Type} {enc : α → List AV} {p : α → Prop} {out : α → List UInt8} {f : FuncId}
def RW (enc : α → List AV) (p : α → Prop) (out : α → List UInt8) (args : List AV) (H : Heap) (r : AEnd) (H' : Heap) : Prop :=
  ∃ id row s a, args = .ptr id 0 :: enc a ∧ p a ∧ r = .ret (.tup []) ∧ BAt H id row s ∧ OkH H ∧ s.size + (out a).length ≤ 2 ^ 44 ∧ H' = bput H id row (s ++ ba (out a))
theorem rw_eq (inj : ∀ a b, enc a = enc b → a = b) {H : Heap} {id row : Nat} {s : ByteArray} {a : α} (ha : p a) (h : BAt H id row s) (hO : OkH H) (hs : s.size + (out a).length ≤ 2 ^ 44) :
    specR (RW enc p out) (.ptr id 0 :: enc a) H = some (.ret (.tup []), bput H id row (s ++ ba (out a))) := by
  refine specR_eq (fun r2 H2 h2 => ?_) ⟨id, row, s, a, rfl, ha, rfl, h, hO, hs, rfl⟩
  obtain ⟨id', row', s', a', e, _, rfl, h2, _, _, rfl⟩ := h2
  simp only [List.cons.injEq, AV.ptr.injEq, and_true] at e
  obtain ⟨rfl, e⟩ := e
  cases inj _ _ e
  obtain ⟨rfl, rfl⟩ := h.uniq h2
  exact ⟨rfl, rfl⟩
theorem rw_ok (h : ∀ a id row s H, p a → BAt H id row s → OkH H → s.size + (out a).length ≤ 2 ^ 44 → Con E f (.ptr id 0 :: enc a) H (.ret (.tup [])) (bput H id row (s ++ ba (out a)))) : SpecOk E f (specR (RW enc p out)) := by
  refine specR_ok fun args H r H' hr => ?_
  obtain ⟨id, row, s, a, rfl, ha, rfl, hb, hO, hs, rfl⟩ := hr
  exact h a id row s H ha hb hO hs
theorem Fam.rw (inj : ∀ a b, enc a = enc b → a = b) {id row : Nat} {HB : ByteArray → Heap} (F : Fam id row HB) {s : ByteArray} {a : α} (ha : p a) (hO : OkH (HB s)) (hs : s.size + (out a).length ≤ 2 ^ 44) :
    specR (RW enc p out) (.ptr id 0 :: enc a) (HB s) = some (.ret (.tup []), HB (s ++ ba (out a))) := by
  rw [rw_eq inj ha (F.at_ s) hO hs, F.put]
end

/-! ### xml.plain, xml.chars -/
def enc52 (p : List UInt8 × List UInt8) : List AV := [.v (.string (ba p.1)), .v (.string (ba p.2))]
theorem enc52_inj (a b : List UInt8 × List UInt8) (h : enc52 a = enc52 b) : a = b := by
  simp only [enc52, List.cons.injEq, AV.v.injEq, Value.string.injEq, and_true] at h
  exact Prod.ext (ba_inj h.1) (ba_inj h.2)
def p52 (p : List UInt8 × List UInt8) : Prop := p.1.length ≤ 10 ∧ p.2.length ≤ 2 ^ 39
theorem tell37 : CallOk E (told 37 (specR R37) noCall) := told_ok ok37 noCall_ok
theorem xplain_len {m t : List UInt8} : (xplain m t).length = 2 * m.length + t.length + 5 := by simp [xplain]; omega
noncomputable def s52 : Spec := specR (RW enc52 p52 fun p => xplain p.1 p.2)
theorem ok52 : SpecOk E 52 s52 := rw_ok fun a id row s H ha hb hO hs => by
  have F := fam_of hb
  refine con_same goodE mixed tell37 code52 (walk52 (n := 0) a.1 a.2 ha.1 ha.2 (H' := bput H id row (s ++ ba (xplain a.1 a.2))) ?_) bput_len
  rw [told_self]
  have := F.w37 (s := s) (t := xplain a.1 a.2) (by omega)
  rwa [bput_self hb] at this
/-- The first that is written. -/
theorem con52_nil {H : Heap} {id : Nat} (hb : BNil H id) (m t : List UInt8) (hm : m.length ≤ 10) (ht : t.length ≤ 2 ^ 39) : Con E 52 [.ptr id 0, .v (.string (ba m)), .v (.string (ba t))] H (.ret (.tup [])) (bnil H id (ba (xplain m t))) := by
  refine con_grown goodE mixed tell37 code52 (walk52 (n := 0) m t hm ht (H' := bnil H id (ba (xplain m t))) ?_) (bnil_grown hb)
  rw [told_self]
  exact s37_nil hb (by rw [ba_size, xplain_len]; omega) (by rw [ba_size, xplain_len]; omega)
def encS (l : List UInt8) : List AV := [.v (.string (ba l))]
theorem encS_inj (a b : List UInt8) (h : encS a = encS b) : a = b := by
  simp only [encS, List.cons.injEq, AV.v.injEq, Value.string.injEq, and_true] at h
  exact ba_inj h
noncomputable def s53 : Spec := specR (RW encS (fun l => l.length < 2 ^ 40) xchars)
theorem ok53 : SpecOk E 53 s53 := rw_ok fun a id row s H ha hb hO hs => by
  have F := fam_of hb
  have hw := walk53 (call := told 37 (specR R37) (told 43 (specR R43) (told 91 s91 noCall))) (n := a.length + 1) (id := id) (HB := bput H id row) a ha (by omega) s (by omega)
    (fun s t ht hs => by rw [told_self]; exact F.w37 (by omega)) (fun s c hs => by rw [told_ne (by decide), told_self]; exact F.w43 (by omega))
    (fun c hc H => by rw [told_ne (by decide), told_ne (by decide), told_self]; exact specOf_eq (a := c) enc91_inj hc)
  rw [bput_self hb] at hw
  exact con_same goodE mixed (told_ok ok37 (told_ok ok43 (told_ok ok91 noCall_ok))) code53 hw bput_len
end Go.AI.Jx
end
section
set_option linter.all false
set_option maxRecDepth 100000
namespace Go.AI.Jx
open Go Go.Proofs
def tiny (v : VT) : Prop := v.need < 2 ^ 30
def good (v : VT) : Prop := VT.formed valid numCheck v = true ∧ v.wf ∧ tiny v
noncomputable def s29 (N : Nat) : Spec := specR (RW encV (fun v => good v ∧ v.need < N) xlay)
def enc54 (p : List UInt8 × ByteArray × VT) : List AV := [.v (.string (ba p.1)), .v (.string p.2.1), .agg p.2.2.enc]
theorem enc54_inj (a b : List UInt8 × ByteArray × VT) (h : enc54 a = enc54 b) : a = b := by
  simp only [enc54, List.cons.injEq, AV.v.injEq, Value.string.injEq, AV.agg.injEq, and_true] at h
  exact Prod.ext (ba_inj h.1) (Prod.ext h.2.1 (enc_inj _ _ h.2.2))
def p54 (N : Nat) (p : List UInt8 × ByteArray × VT) : Prop := p.1.length ≤ 5 ∧ p.2.1.size < 2 ^ 40 ∧ good p.2.2 ∧ p.2.2.need < N
def o54 (p : List UInt8 × ByteArray × VT) : List UInt8 := xname p.1 p.2.1.data.toList (xlay p.2.2)
noncomputable def s54 (N : Nat) : Spec := specR (RW enc54 (p54 N) o54)
noncomputable def call54 (N : Nat) : CallFn := told 37 (specR R37) (told 53 s53 (told 29 (s29 N) noCall))
theorem call54_37 {N : Nat} {args : List AV} {H : Heap} : call54 N 37 args H = specR R37 args H := told_self
theorem call54_53 {N : Nat} {args : List AV} {H : Heap} : call54 N 53 args H = s53 args H := by unfold call54; rw [told_ne (by decide), told_self]
theorem call54_29 {N : Nat} {args : List AV} {H : Heap} : call54 N 29 args H = s29 N args H := by unfold call54; rw [told_ne (by decide), told_ne (by decide), told_self]
theorem xname_length {m nm o : List UInt8} : (xname m nm o).length = (2 * m.length + 13) + (xchars nm).length + o.length := by
  unfold xname
  simp only [List.length_append, List.length_cons, List.length_nil]
  omega
/-- What follows the first text. -/
theorem named_walk {N : Nat} {n id row : Nat} {H : Heap} {HB : ByteArray → Heap} (F : Fam id row HB) {m : List UInt8} {nm : ByteArray} {w : VT} (hp : p54 N (m, nm, w)) (s : ByteArray) (hs : s.size + (xname m nm.data.toList (xlay w)).length ≤ 2 ^ 44)
    (hO : OkH (HB s)) (hc : ∀ s, (HB s)[H.length]? = some (.box 29 w.enc))
    (h1 : specR R37 [.ptr id 0, .v (.string (ba ([60] ++ m ++ [32, 110, 97, 109, 101, 61, 34])))] (H ++ [.box 29 w.enc]) = some (.ret (.tup [.v (.int .i64 (ba ([60] ++ m ++ [32, 110, 97, 109, 101, 61, 34])).size), .v .nilIface]), HB (s ++ ba ([60] ++ m ++ [32, 110, 97, 109, 101, 61, 34])))) :
    abody E (call54 N) n Tryz.f54 (Tryz.f54.body.get!) [.ptr id 0, .v (.string (ba m)), .v (.string nm), .agg w.enc] H = some (.ret (.tup []), HB (s ++ ba (xname m nm.data.toList (xlay w)))) := by
  obtain ⟨p1, p2, p3, p4⟩ := hp
  have hl := @xname_length m nm.data.toList (xlay w)
  have hm : m.length ≤ 5 := p1
  have e : s ++ ba (xname m nm.data.toList (xlay w)) = s ++ ba ([60] ++ m ++ [32, 110, 97, 109, 101, 61, 34]) ++ ba (xchars nm.data.toList) ++ ba [34, 62] ++ ba (xlay w) ++ ba ([60, 47] ++ m ++ [62]) := by
    simp only [ByteArray.append_assoc, ba_append, xname, List.append_assoc]
  rw [e]
  refine walk54 (H1 := HB (s ++ ba ([60] ++ m ++ [32, 110, 97, 109, 101, 61, 34]))) (H2 := HB (s ++ ba ([60] ++ m ++ [32, 110, 97, 109, 101, 61, 34]) ++ ba (xchars nm.data.toList)))
    (H3 := HB (s ++ ba ([60] ++ m ++ [32, 110, 97, 109, 101, 61, 34]) ++ ba (xchars nm.data.toList) ++ ba [34, 62])) (H4 := HB (s ++ ba ([60] ++ m ++ [32, 110, 97, 109, 101, 61, 34]) ++ ba (xchars nm.data.toList) ++ ba [34, 62] ++ ba (xlay w))) (by omega) ?_ ?_ ?_ (hc _) ?_ ?_
  · rw [call54_37]; exact h1
  · rw [call54_53]
    have := F.rw (p := fun l : List UInt8 => l.length < 2 ^ 40) (out := xchars) encS_inj (s := s ++ ba ([60] ++ m ++ [32, 110, 97, 109, 101, 61, 34])) (a := nm.data.toList) p2 (F.ok hO) (by
      simp only [ByteArray.size_append, ba_size, List.length_append, List.length_cons, List.length_nil]; omega)
    unfold encS at this
    rw [ba_self] at this
    exact this
  · rw [call54_37]
    refine F.w37 ?_
    simp only [ByteArray.size_append, ba_size, List.length_append, List.length_cons, List.length_nil]; omega
  · rw [call54_29]
    refine F.rw encV_inj (a := w) ⟨p3, p4⟩ (F.ok hO) ?_
    simp only [ByteArray.size_append, ba_size, List.length_append, List.length_cons, List.length_nil]; omega
  · rw [call54_37]
    refine F.w37 ?_
    simp only [ByteArray.size_append, ba_size, List.length_append, List.length_cons, List.length_nil]; omega
theorem tell54 {N : Nat} (h29 : SpecOk E 29 (s29 N)) : CallOk E (call54 N) := told_ok ok37 (told_ok ok53 (told_ok h29 noCall_ok))
theorem box_at {H : Heap} {o : AObj} {L : Nat} (h : L = H.length) : (H ++ [o])[L]? = some o := by subst h; exact List.getElem?_concat_length
theorem ok54 (N : Nat) (h29 : SpecOk E 29 (s29 N)) : SpecOk E 54 (s54 N) := rw_ok fun a id row s H ha hb hO hs => by
  obtain ⟨m, nm, w⟩ := a
  have F : Fam id row fun u => bput H id row u ++ [AObj.box 29 w.enc] := (fam_of hb).push _
  have hO2 : OkH (bput H id row s ++ [.box 29 w.enc]) := okH_box (okH_bput hO hb) (enc_under w)
  refine con_gone goodE mixed (tell54 h29) code54 (named_walk (N := N) (n := 0) F ha s hs hO2 (fun s => box_at bput_len.symm) ?_) bput_len (okH_bput hO hb) rfl
  have hl := @xname_length m nm.data.toList (xlay w)
  have hm : m.length ≤ 5 := ha.1
  have hs2 : s.size + (xname m nm.data.toList (xlay w)).length ≤ 2 ^ 44 := hs
  have := F.w37 (s := s) (t := [60] ++ m ++ [32, 110, 97, 109, 101, 61, 34]) (by simp only [List.length_append, List.length_cons, List.length_nil]; omega)
  simp only [bput_self hb] at this
  exact this
/-- The first that is written. -/
theorem con54_nil (N : Nat) (h29 : SpecOk E 29 (s29 N)) {H : Heap} {id : Nat} (hb : BNil H id) (hO : OkH H) {m : List UInt8} {nm : ByteArray} {w : VT} (hp : p54 N (m, nm, w)) (hs : (xname m nm.data.toList (xlay w)).length ≤ 2 ^ 44) :
    ∃ H' row, Con E 54 [.ptr id 0, .v (.string (ba m)), .v (.string nm), .agg w.enc] H (.ret (.tup [])) H' ∧ BAt H' id row (ba (xname m nm.data.toList (xlay w))) ∧ H.length ≤ row := by
  have l1 : id < H.length := (List.getElem?_eq_some_iff.1 hb).1
  have hb2 : BNil (H ++ [AObj.box 29 w.enc]) id := by unfold BNil; rw [List.getElem?_append_left l1]; exact hb
  have hO2 : OkH (H ++ [.box 29 w.enc]) := okH_box hO (enc_under w)
  have F : Fam id (H ++ [AObj.box 29 w.enc]).length fun u => bnil (H ++ [AObj.box 29 w.enc]) id u := ⟨fun u => bnil_at hb2, fun u v => bnil_bput hb2⟩
  have hm : m.length ≤ 5 := hp.1
  have hw := named_walk (N := N) (n := 0) (H := H) F hp ByteArray.empty (by simpa using hs) (okH_bnil hO2 hb2) (fun s => by
    unfold bnil
    rw [List.getElem?_append_left (by simp), List.getElem?_set_ne (by omega)]
    exact box_at rfl) (by
    rw [ByteArray.empty_append]
    exact s37_nil hb2 (by rw [ba_size]; simp) (by rw [ba_size]; simp; omega))
  rw [ByteArray.empty_append] at hw
  refine ⟨_, _, con_grown goodE mixed (tell54 h29) code54 hw ?_, F.at_ _, by simp⟩
  have hbox := (F.at_ (ba (xname m nm.data.toList (xlay w)))).box
  rw [List.all_eq_false]
  refine ⟨_, List.mem_of_getElem? (i := id) (by rw [List.getElem?_take_of_lt l1]; exact hbox), ?_⟩
  simp [AObj.under, AV.underL, AV.under]
end Go.AI.Jx
end
section
set_option linter.all false
set_option maxRecDepth 100000
namespace Go.AI.Jx
open Go Go.Proofs
noncomputable def call29 (N : Nat) : CallFn := told 37 (specR R37) (told 38 s38 (told 39 s39 (told 41 s41 (told 52 s52 (told 53 s53 (told 54 (s54 N) (told 29 (s29 N) noCall)))))))
section
variable {N : Nat} {args : List AV} {H : Heap}
theorem call29_37 : call29 N 37 args H = specR R37 args H := told_self
theorem call29_38 : call29 N 38 args H = s38 args H := by unfold call29; rw [told_ne (by decide), told_self]
theorem call29_39 : call29 N 39 args H = s39 args H := by unfold call29; rw [told_ne (by decide), told_ne (by decide), told_self]
theorem call29_41 : call29 N 41 args H = s41 args H := by unfold call29; rw [told_ne (by decide), told_ne (by decide), told_ne (by decide), told_self]
theorem call29_52 : call29 N 52 args H = s52 args H := by unfold call29; rw [told_ne (by decide), told_ne (by decide), told_ne (by decide), told_ne (by decide), told_self]
theorem call29_53 : call29 N 53 args H = s53 args H := by unfold call29; rw [told_ne (by decide), told_ne (by decide), told_ne (by decide), told_ne (by decide), told_ne (by decide), told_self]
theorem call29_54 : call29 N 54 args H = s54 N args H := by unfold call29; rw [told_ne (by decide), told_ne (by decide), told_ne (by decide), told_ne (by decide), told_ne (by decide), told_ne (by decide), told_self]
theorem call29_29 : call29 N 29 args H = s29 N args H := by unfold call29; rw [told_ne (by decide), told_ne (by decide), told_ne (by decide), told_ne (by decide), told_ne (by decide), told_ne (by decide), told_ne (by decide), told_self]
end
theorem tell29 {N : Nat} (h29 : SpecOk E 29 (s29 N)) : CallOk E (call29 N) :=
  told_ok ok37 (told_ok ok38 (told_ok ok39 (told_ok ok41 (told_ok ok52 (told_ok ok53 (told_ok (ok54 N h29) (told_ok h29 noCall_ok)))))))
theorem wfL_mem : ∀ {l : List VT}, VT.wfL l → ∀ x ∈ l, x.wf
  | [], _, x, h => by simp at h
  | v :: l, h, x, hx => by
    rcases List.mem_cons.1 hx with rfl | hx
    · exact h.1
    · exact wfL_mem h.2 x hx
theorem good_mem {k f ng d e b t ns l} (h : good (.mk k f ng d e b t ns l)) : ∀ x ∈ l, good x ∧ x.need < (VT.mk k f ng d e b t ns l).need := fun x hx => by
  have h1 := need_mem hx
  have h2 : tiny (.mk k f ng d e b t ns l) := h.2.2
  unfold tiny at h2
  have hn : (VT.mk k f ng d e b t ns l).need = VT.needL l + l.length + ns.length + (ns.map ByteArray.size).sum + t.size + d.size + 8 := by simp only [VT.need]
  refine ⟨⟨formed_mem (formed_inv h.1).1 x hx, wfL_mem h.2.1.2.2.2 x hx, by unfold tiny; omega⟩, by omega⟩
def lis : List UInt8 := [60, 108, 105, 115, 116, 62]
theorem lay_first {N n id row : Nat} {H : Heap} {HB : ByteArray → Heap} (F : Fam id row HB) {k : Int} {f ng : Bool} {d : ByteArray} {e b : Int} {t : ByteArray} {ns : List ByteArray} {l : List VT}
    (hg : good (.mk k f ng d e b t ns l)) (hN : (VT.mk k f ng d e b t ns l).need ≤ N) (hn : l.length < n) (s : ByteArray) (hs : s.size + (xlay (.mk k f ng d e b t ns l)).length ≤ 2 ^ 44)
    (hO : OkH (HB s)) (hc : ∀ s, (HB s)[H.length]? = some (.box 29 (VT.enc (.mk k f ng d e b t ns l))))
    (h1 : ∀ u : List UInt8, 1 ≤ u.length ∧ u.length ≤ 20 → specR R37 [.ptr id 0, .v (.string (ba u))] (H ++ [.box 29 (VT.enc (.mk k f ng d e b t ns l))]) = some (.ret (.tup [.v (.int .i64 (ba u).size), .v .nilIface]), HB (s ++ ba u)))
    (hk : k = 1 ∨ k = 2 ∨ k = 5 ∨ k = 7 ∨ k = 8) :
    ∃ ext, abody E (call29 N) n Tryz.f29 (Tryz.f29.body.get!) [.ptr id 0, .agg (VT.enc (.mk k f ng d e b t ns l))] H = some (.ret (.tup []), HB (s ++ ba (xlay (.mk k f ng d e b t ns l))) ++ ext) := by
  obtain ⟨hl, hkk⟩ := formed_inv hg.1
  have hsm : tiny (.mk k f ng d e b t ns l) := hg.2.2
  unfold tiny at hsm
  have hne : (VT.mk k f ng d e b t ns l).need = VT.needL l + l.length + ns.length + (ns.map ByteArray.size).sum + t.size + d.size + 8 := by simp only [VT.need]
  have hok : ∀ s s' ext, OkH (HB s ++ ext) → OkH (HB s' ++ ext) := fun s s' ext h => (F.push ext).ok h
  rcases hk with rfl | rfl | rfl | rfl | rfl
  · refine ⟨[], ?_⟩
    rw [List.append_nil]
    refine walk29_1 ?_
    rw [call29_37]
    simp only [xlay]
    exact h1 _ (by decide)
  · refine ⟨[], ?_⟩
    rw [List.append_nil]
    refine walk29_2 (fun H => ?_) ?_
    · rw [call29_38]; exact specOf_eq (a := f) encB_inj trivial
    · rw [call29_37]
      have := h1 ([60] ++ boolS f ++ [47, 62]) (by cases f <;> decide)
      simpa [xlay] using this
  · refine ⟨[], ?_⟩
    rw [List.append_nil]
    have ee : s ++ ba (xlay (.mk 5 f ng d e b t ns l)) = s ++ ba [60, 116, 101, 120, 116, 62] ++ ba (xchars t.data.toList) ++ ba [60, 47, 116, 101, 120, 116, 62] := by
      simp only [ByteArray.append_assoc, ba_append, List.append_assoc]
      simp [xlay]
    have hlen : (xlay (.mk 5 f ng d e b t ns l)).length = (xchars t.data.toList).length + 13 := by simp [xlay]
    rw [ee]
    refine walk29_5 (H1 := HB (s ++ ba [60, 116, 101, 120, 116, 62])) (H2 := HB (s ++ ba [60, 116, 101, 120, 116, 62] ++ ba (xchars t.data.toList))) ?_ (hc _) ?_ ?_
    · rw [call29_37]; exact h1 _ (by decide)
    · rw [call29_53]
      have := F.rw (p := fun l : List UInt8 => l.length < 2 ^ 40) (out := xchars) encS_inj (s := s ++ ba [60, 116, 101, 120, 116, 62]) (a := t.data.toList) (by rw [data_len]; omega) (F.ok hO) (by
        simp only [ByteArray.size_append, ba_size, List.length_cons, List.length_nil]; omega)
      unfold encS at this
      rw [ba_self] at this
      exact this
    · rw [call29_37]
      refine F.w37 ?_
      simp only [ByteArray.size_append, ba_size, List.length_cons, List.length_nil]; omega
  · have ee : ∀ s : ByteArray, s ++ ba (xlay (.mk 7 f ng d e b t ns l)) = s ++ ba [60, 108, 105, 115, 116, 62] ++ ba (l.flatMap xlay) ++ ba [60, 47, 108, 105, 115, 116, 62] := fun s => by
      simp only [ByteArray.append_assoc, ba_append, List.append_assoc]
      simp [xlay, xlayL_eq]
    have hlen : (xlay (.mk 7 f ng d e b t ns l)).length = (l.flatMap xlay).length + 13 := by simp [xlay, xlayL_eq]
    rw [ee]
    refine walk29_7 (out := xlay) (s ++ ba [60, 108, 105, 115, 116, 62]) (by omega) hn hok (F.ok hO) ?_ (hc _) ?_ ?_ ?_
    · simp only [ByteArray.size_append, ba_size, List.length_cons, List.length_nil]; omega
    · rw [call29_37]; exact h1 _ (by decide)
    · intro s ext x hx hO hs
      rw [call29_29]
      obtain ⟨g1, g2⟩ := good_mem hg x hx
      exact (F.push ext).rw encV_inj (a := x) ⟨g1, by omega⟩ hO hs
    · intro ext
      rw [call29_37]
      refine (F.push ext).w37 ?_
      simp only [ByteArray.size_append, ba_size, List.length_cons, List.length_nil]; omega
  · have hnl : ns.length = l.length := by simpa using hkk
    have ee : ∀ s : ByteArray, s ++ ba (xlay (.mk 8 f ng d e b t ns l)) = s ++ ba [60, 114, 101, 99, 111, 114, 100, 62] ++ ba ((ns.zip l).flatMap fun p => xname xField p.1.data.toList (xlay p.2)) ++ ba [60, 47, 114, 101, 99, 111, 114, 100, 62] := fun s => by
      simp only [ByteArray.append_assoc, ba_append, List.append_assoc]
      simp [xlay, xlayF_eq]
    have hlen : (xlay (.mk 8 f ng d e b t ns l)).length = ((ns.zip l).flatMap fun p => xname xField p.1.data.toList (xlay p.2)).length + 17 := by simp [xlay, xlayF_eq]
    rw [ee]
    refine walk29_8 (out := fun nm x => xname xField nm.data.toList (xlay x)) (s ++ ba [60, 114, 101, 99, 111, 114, 100, 62]) hnl (by omega) hn hok (F.ok hO) ?_ (fun s ext => ?_) ?_ ?_ ?_
    · simp only [ByteArray.size_append, ba_size, List.length_cons, List.length_nil]; omega
    · have h := hc s
      rw [List.getElem?_append_left (List.getElem?_eq_some_iff.1 h).1]; exact h
    · rw [call29_37]; exact h1 _ (by decide)
    · intro s ext nm x hnm hx hO hs
      rw [call29_54]
      obtain ⟨g1, g2⟩ := good_mem hg x hx
      have := le_sum hnm
      exact (F.push ext).rw enc54_inj (a := (xField, nm, x)) ⟨(by decide : xField.length ≤ 5), by show nm.size < _; omega, g1, by show x.need < _; omega⟩ hO hs
    · intro ext
      rw [call29_37]
      refine (F.push ext).w37 ?_
      simp only [ByteArray.size_append, ba_size, List.length_cons, List.length_nil]; omega
end Go.AI.Jx
end
section
set_option linter.all false
set_option maxRecDepth 100000
namespace Go.AI.Jx
open Go Go.Proofs
theorem rowH_ext (l : List UInt8) : ∃ ext : Heap, ∀ H, rowH H l = H ++ ext := by
  by_cases hl : l = []
  · exact ⟨[], fun H => by unfold rowH; rw [if_pos hl, List.append_nil]⟩
  · exact ⟨[.arr 5 l.length false (bav l)], fun H => by unfold rowH; rw [if_neg hl]⟩
open Classical in
noncomputable def one (a : List AV) (K : Heap) (r : AEnd) (K' : Heap) : Spec := fun args H => if args = a ∧ H = K then some (r, K') else none
theorem one_self {a : List AV} {K K' : Heap} {r : AEnd} : one a K r K' a K = some (r, K') := by unfold one; rw [if_pos ⟨rfl, rfl⟩]
theorem one_ok {f : FuncId} {a : List AV} {K K' : Heap} {r : AEnd} (h : Con E f a K r K') : SpecOk E f (one a K r K') := by
  intro args H r2 H2 e
  unfold one at e
  split at e
  · rename_i hx
    obtain ⟨rfl, rfl⟩ := hx
    cases e
    exact h
  · cases e
theorem grown_at {H H' : Heap} {id row : Nat} {s : ByteArray} (hb : BAt H' id row s) (h1 : id < H.length) (h2 : H.length ≤ row) : (H'.take H.length).all (·.under H.length) = false := by
  rw [List.all_eq_false]
  refine ⟨_, List.mem_of_getElem? (i := id) (by rw [List.getElem?_take_of_lt h1]; exact hb.box), ?_⟩
  simp [AObj.under, AV.underL, AV.under]; omega
theorem BNil.push {H : Heap} {id : Nat} (h : BNil H id) (ext : Heap) : BNil (H ++ ext) id := by
  have l1 : id < H.length := (List.getElem?_eq_some_iff.1 h).1
  unfold BNil
  rw [List.getElem?_append_left l1]; exact h
theorem kinds {k : Int} {f ng : Bool} {d : ByteArray} {e b : Int} {t : ByteArray} {ns : List ByteArray} {l : List VT} (hg : good (.mk k f ng d e b t ns l)) :
    (k = 1 ∨ k = 2 ∨ k = 5 ∨ k = 7 ∨ k = 8) ∨ (k = 3 ∧ numCheck ng d e = 0) ∨ k = 4 ∨ k = 6 ∨ (k = 9 ∧ ∃ w, l = [w]) := by
  obtain ⟨_, h⟩ := formed_inv hg.1
  rcases h with h | h | h | h | h | h | h | h | h
  · exact .inl (.inl h)
  · exact .inl (.inr (.inl h))
  · exact .inr (.inl h)
  · exact .inr (.inr (.inl h))
  · exact .inl (.inr (.inr (.inl h)))
  · exact .inr (.inr (.inr (.inl h)))
  · exact .inl (.inr (.inr (.inr (.inl h))))
  · exact .inl (.inr (.inr (.inr (.inr h.1))))
  · exact .inr (.inr (.inr (.inr ⟨h.1, List.length_eq_one_iff.1 h.2⟩)))
theorem hex_arg {b : Int} (h0 : 0 ≤ b) {H : Heap} {N : Nat} (h1 : b ≤ 18446744073709551615) : s41 [.v (.int .u64 b)] H = some (.ret (.v (.string (ba (hex16 b.toNat)))), H) := by
  have : [AV.v (.int .u64 b)] = encU b.toNat := by unfold encU; rw [Int.toNat_of_nonneg h0]
  rw [this]
  exact specOf_eq (a := b.toNat) encU_inj (by unfold u64; omega)
theorem con29_at (N : Nat) (h29 : SpecOk E 29 (s29 N)) (v : VT) (hg : good v) (hN : v.need ≤ N) (id row : Nat) (s : ByteArray) (H : Heap) (hb : BAt H id row s) (hO : OkH H) (hs : s.size + (xlay v).length ≤ 2 ^ 44) :
    Con E 29 (.ptr id 0 :: encV v) H (.ret (.tup [])) (bput H id row (s ++ ba (xlay v))) := by
  have F0 : Fam id row (bput H id row) := fam_of hb
  have F : Fam id row fun u => bput H id row u ++ [AObj.box 29 v.enc] := F0.push _
  have hO2 : OkH (bput H id row s ++ [.box 29 v.enc]) := okH_box (okH_bput hO hb) (enc_under v)
  have hH0 : H ++ [AObj.box 29 v.enc] = bput H id row s ++ [.box 29 v.enc] := by rw [bput_self hb]
  have hend : ∀ {n : Nat} {ext : Heap}, abody E (call29 N) n Tryz.f29 (Tryz.f29.body.get!) [.ptr id 0, .agg v.enc] H = some (.ret (.tup []), bput H id row (s ++ ba (xlay v)) ++ ext) → Con E 29 (.ptr id 0 :: encV v) H (.ret (.tup [])) (bput H id row (s ++ ba (xlay v))) := fun h =>
    con_gone goodE mixed (tell29 h29) code29 h bput_len (okH_bput hO hb) rfl
  obtain ⟨k, f, ng, d, e, b, t, ns, l⟩ := v
  have hsm : tiny (.mk k f ng d e b t ns l) := hg.2.2
  unfold tiny at hsm
  have hne : (VT.mk k f ng d e b t ns l).need = VT.needL l + l.length + ns.length + (ns.map ByteArray.size).sum + t.size + d.size + 8 := by simp only [VT.need]
  rcases kinds hg with hk | ⟨rfl, h0⟩ | rfl | rfl | ⟨rfl, w, rfl⟩
  · obtain ⟨ext, h⟩ := lay_first (N := N) (n := l.length + 1) (H := H) F hg hN (by omega) s hs hO2 (fun s => box_at bput_len.symm) (fun u hu => by
      rw [hH0]; exact F.w37 (by omega)) hk
    rw [List.append_assoc] at h
    exact hend h
  · obtain ⟨g1, g2⟩ := numCheck_zero h0
    have g3 := printL_len (ng := ng) g1 g2
    refine hend (n := 0) (ext := [AObj.box 29 (VT.enc (.mk 3 f ng d e b t ns l))]) (walk29_3 (pr := printL ng d.data.toList e) (fun H => ?_) ?_)
    · rw [call29_39]; exact specOf_eq (a := (ng, d, e)) enc24_inj h0
    · rw [call29_52, hH0]
      exact F.rw enc52_inj (a := ([110, 117, 109], printL ng d.data.toList e)) ⟨by simp, by show (printL ng d.data.toList e).length ≤ _; omega⟩ hO2 hs
  · refine hend (n := 0) (ext := [AObj.box 29 (VT.enc (.mk 4 f ng d e b t ns l))]) (walk29_4 (fun H => ?_) ?_)
    · rw [call29_41]; exact hex_arg (N := 0) hg.2.1.2.2.1.1 hg.2.1.2.2.1.2
    · rw [call29_52, hH0]
      exact F.rw enc52_inj (a := ([102, 108, 111, 97, 116], hex16 b.toNat)) ⟨by simp, by show (hex16 b.toNat).length ≤ _; rw [hex16_len]; omega⟩ hO2 hs
  · obtain ⟨tl, rfl⟩ : ∃ tl, t = ba tl := ⟨t.data.toList, ba_self.symm⟩
    rw [ba_size] at hne
    obtain ⟨ext, hx⟩ := rowH_ext (hexS tl)
    refine hend (n := tl.length + 1) (ext := [AObj.box 29 (VT.enc (.mk 6 f ng d e b (ba tl) ns l))] ++ ext) (walk29_6 (by omega) (by omega) ?_)
    have hl := hexS_len tl
    rw [call29_52, hx, hH0]
    have := (F.push ext).rw (p := p52) (out := fun p => xplain p.1 p.2) enc52_inj (s := s) (a := ([98, 121, 116, 101, 115], hexS tl)) ⟨by simp, by show (hexS tl).length ≤ _; omega⟩ (by
      show OkH (_ ++ ext)
      rw [← hx]; exact okH_rowH hO2) (by simpa [xlay, ba_data] using hs)
    have e6 : xlay (.mk 6 f ng d e b (ba tl) ns l) = xplain [98, 121, 116, 101, 115] (hexS tl) := by simp [xlay, ba_data]
    rw [e6, ← List.append_assoc]
    exact this
  · refine hend (n := 0) (ext := [AObj.box 29 (VT.enc (.mk 9 f ng d e b t ns [w]))]) (walk29_9 ?_)
    obtain ⟨g1, g2⟩ := good_mem hg w (by simp)
    have e9 : xlay (.mk 9 f ng d e b t ns [w]) = o54 (xTag, t, w) := by simp [xlay, xlayL, o54]
    rw [call29_54, hH0, e9]
    rw [e9] at hs
    exact F.rw enc54_inj (a := (xTag, t, w)) ⟨(by decide : xTag.length ≤ 5), (by show t.size < _; omega), g1, (by show w.need < _; omega)⟩ hO2 hs
theorem ok29 : ∀ N, SpecOk E 29 (s29 N)
  | 0 => rw_ok fun a id row s H ha => by omega
  | N + 1 => rw_ok fun a id row s H ha hb hO hs => con29_at N (ok29 N) a ha.1 (by omega) id row s H hb hO hs
/-- The first that is written. -/
theorem con29_nil (v : VT) (hg : good v) {H : Heap} {id : Nat} (hb : BNil H id) (hO : OkH H) (hs : (xlay v).length ≤ 2 ^ 44) :
    ∃ H' row, Con E 29 [.ptr id 0, .agg v.enc] H (.ret (.tup [])) H' ∧ BAt H' id row (ba (xlay v)) := by
  have l1 : id < H.length := (List.getElem?_eq_some_iff.1 hb).1
  have hb2 : BNil (H ++ [.box 29 v.enc]) id := hb.push _
  have hO2 : OkH (H ++ [.box 29 v.enc]) := okH_box hO (enc_under v)
  have F : Fam id (H ++ [AObj.box 29 v.enc]).length fun u => bnil (H ++ [AObj.box 29 v.enc]) id u := ⟨fun u => bnil_at hb2, fun u v => bnil_bput hb2⟩
  have hend : ∀ {n : Nat} {call : CallFn} (hc : CallOk E call) {H' : Heap} {row : Nat} (h : abody E call n Tryz.f29 (Tryz.f29.body.get!) [.ptr id 0, .agg v.enc] H = some (.ret (.tup []), H')) (h1 : BAt H' id row (ba (xlay v))) (h2 : H.length ≤ row), ∃ H' row, Con E 29 [.ptr id 0, .agg v.enc] H (.ret (.tup [])) H' ∧ BAt H' id row (ba (xlay v)) :=
    fun {n call} hc {H' row} h h1 h2 => ⟨H', row, con_grown goodE mixed hc code29 h (grown_at h1 l1 h2), h1⟩
  obtain ⟨k, f, ng, d, e, b, t, ns, l⟩ := v
  have hsm : tiny (.mk k f ng d e b t ns l) := hg.2.2
  unfold tiny at hsm
  have hne : (VT.mk k f ng d e b t ns l).need = VT.needL l + l.length + ns.length + (ns.map ByteArray.size).sum + t.size + d.size + 8 := by simp only [VT.need]
  rcases kinds hg with hk | ⟨rfl, h0⟩ | rfl | rfl | ⟨rfl, w, rfl⟩
  · obtain ⟨ext, h⟩ := lay_first (N := (VT.mk k f ng d e b t ns l).need) (n := l.length + 1) (H := H) F hg (Nat.le_refl _) (by omega) ByteArray.empty (by simpa using hs) (okH_bnil hO2 hb2) (fun s => by
        unfold bnil
        rw [List.getElem?_append_left (by simp), List.getElem?_set_ne (by omega)]
        exact box_at rfl) (fun u hu => by
        rw [ByteArray.empty_append]
        exact s37_nil hb2 (by rw [ba_size]; omega) (by rw [ba_size]; omega)) hk
    rw [ByteArray.empty_append] at h
    exact hend (tell29 (ok29 _)) h ((F.at_ _).push ext) (by simp)
  · obtain ⟨g1, g2⟩ := numCheck_zero h0
    have g3 := printL_len (ng := ng) g1 g2
    have hc := con52_nil hb2 [110, 117, 109] (printL ng d.data.toList e) (by simp) (by omega)
    refine hend (n := 0) (told_ok (one_ok hc) (told_ok ok39 noCall_ok)) (walk29_3 (pr := printL ng d.data.toList e) (fun H => ?_) ?_) (F.at_ _) (by simp)
    · rw [told_ne (by decide), told_self]; exact specOf_eq (a := (ng, d, e)) enc24_inj h0
    · rw [told_self]; exact one_self
  · have hc := con52_nil hb2 [102, 108, 111, 97, 116] (hex16 b.toNat) (by simp) (by rw [hex16_len]; omega)
    refine hend (n := 0) (told_ok (one_ok hc) (told_ok ok41 noCall_ok)) (walk29_4 (fun H => ?_) ?_) (F.at_ _) (by simp)
    · rw [told_ne (by decide), told_self]; exact hex_arg (N := 0) hg.2.1.2.2.1.1 hg.2.1.2.2.1.2
    · rw [told_self]; exact one_self
  · obtain ⟨tl, rfl⟩ : ∃ tl, t = ba tl := ⟨t.data.toList, ba_self.symm⟩
    rw [ba_size] at hne
    obtain ⟨ext, hx⟩ := rowH_ext (hexS tl)
    have hl := hexS_len tl
    have hb3 : BNil (rowH (H ++ [AObj.box 29 (VT.enc (.mk 6 f ng d e b (ba tl) ns l))]) (hexS tl)) id := by rw [hx]; exact hb2.push ext
    have hc := con52_nil hb3 [98, 121, 116, 101, 115] (hexS tl) (by simp) (by omega)
    have e6 : xlay (.mk 6 f ng d e b (ba tl) ns l) = xplain [98, 121, 116, 101, 115] (hexS tl) := by simp [xlay, ba_data]
    refine hend (n := tl.length + 1) (H' := bnil (rowH (H ++ [AObj.box 29 (VT.enc (.mk 6 f ng d e b (ba tl) ns l))]) (hexS tl)) id (ba (xplain [98, 121, 116, 101, 115] (hexS tl)))) (told_ok (one_ok hc) noCall_ok) (walk29_6 (by omega) (by omega) ?_) (row := (rowH (H ++ [AObj.box 29 (VT.enc (.mk 6 f ng d e b (ba tl) ns l))]) (hexS tl)).length) ?_ ?_
    · rw [told_self]; exact one_self
    · rw [e6]; exact bnil_at hb3
    · rw [hx]; simp
  · obtain ⟨g1, g2⟩ := good_mem hg w (by simp)
    have e9 : xlay (.mk 9 f ng d e b t ns [w]) = o54 (xTag, t, w) := by simp [xlay, xlayL, o54]
    rw [e9] at hs
    obtain ⟨H2, row, hc, hat, hrow⟩ := con54_nil (VT.mk 9 f ng d e b t ns [w]).need (ok29 _) hb2 hO2 (m := xTag) (nm := t) (w := w) ⟨(by decide : xTag.length ≤ 5), (by show t.size < _; omega), g1, g2⟩ hs
    refine hend (n := 0) (H' := H2) (told_ok (one_ok hc) noCall_ok) (walk29_9 ?_) (row := row) ?_ ?_
    · rw [told_self]; exact one_self
    · rw [e9]; exact hat
    · simp at hrow; omega
end Go.AI.Jx
end
section
set_option linter.all false
set_option maxRecDepth 100000
namespace Go.AI.Jx
open Go Go.Proofs
theorem code16 : E.code 16 = some (Tryz.f16, (Tryz.f16.body).get!) := by kernel_rfl
theorem code7 : E.code 7 = some (Tryz.f7, (Tryz.f7.body).get!) := by kernel_rfl
theorem code18 : E.code 18 = some (Tryz.f18, (Tryz.f18.body).get!) := by kernel_rfl

theorem z46 : zeroT E.P 46 = some (.agg #[.pointer none, .slice none 0 0]) := by kernel_rfl
theorem bytes_sl {s : ByteArray} {H : Heap} : oconv E.P 9 30 H (.v (.string s)) = some (.val (.sl s.size (bytesAV s)), H) := oconv_sb und9 und30 (by kernel_rfl)
theorem walk16_bad {call : CallFn} {n : Nat} {k : Int} {f ng : Bool} {d : ByteArray} {e b : Int} {t : ByteArray} {ns : List ByteArray} {l : List VT} {c : Int} (hc : c ≠ 0) (h21 : ∀ H, call 21 [.agg (VT.enc (.mk k f ng d e b t ns l))] H = some (.ret (.v (.int .i64 c)), H)) :
    Gives (abody E call n Tryz.f16 (Tryz.f16.body.get!) [.agg (VT.enc (.mk k f ng d e b t ns l))] []) (.ret (.tup [.v (.slice none 0 0), .v (.int .i64 c)])) := by
  rw [abody_K]
  obtain ⟨tm0, htm, h00, hfr⟩ : ∃ tm0 : List AV, tm0.length = 17 ∧ tm0.getD 0 (.v undef) = .agg (VT.enc (.mk k f ng d e b t ns l)) ∧ aframe E Tryz.f16 [.agg (VT.enc (.mk k f ng d e b t ns l))] [] = ⟨tm0, [], []⟩ := ⟨_, rfl, rfl, rfl⟩
  rw [hfr]
  obtain ⟨fin, hfin, hret, hnor⟩ : ∃ fin, fin = afin E call n Tryz.f16 ∧ (∀ tm H, fin (some (.ret, ⟨tm, [], H⟩)) = some (.ret (.tup [tm.getD 2 (.v undef), tm.getD 3 (.v undef)]), H)) ∧ ∀ tm H, fin (some (.normal, ⟨tm, [], H⟩)) = some (.ret (.tup [tm.getD 2 (.v undef), tm.getD 3 (.v undef)]), H) := ⟨_, rfl, fun _ _ => rfl, fun _ _ => rfl⟩
  rw [← hfin]
  generalize hq : aK E call n fin [] (acode E call n (Tryz.f16.body.get!) ⟨tm0, [], []⟩) = q
  simp [Tryz.f16] at hq
  have hd : (c != 0) = true := by simpa using hc
  have hd2 : (c == 0) = false := by simpa using hc
  simp only [VT.enc] at h21
  have hb : (Code.skip = Code.skip) ↔ True := by simp
  repeat' (first
    | (simp only [cond_iff, guardT_iff, guardF_iff, aret_iff, kguardT_iff, kguardF_iff] at hq; rcases hq with ⟨hb, hq⟩ | ⟨hb, hq⟩)
    | simp only [kops_nil, kops_plain, kops_if, kstep_val, kstep_skip, kstep_call, kret_ret, kguard_tt, kguard_ff, kguard_tf, kguard_ft, kguard_un, kone_plain, koneS_val, koneS_skip, koneS_call, koneR_ret, aK_seq, aK_block, aK_region, aK_skip, aK_exit, aK_ret, aK_loop, aK_seq_n, aK_seq_e, aK_seq_r, aK_seq_p, aK_blk_n, aK_blk_e, aK_blk_r, aK_blk_p, aK_nil_n, aK_nil_e, aK_nil_r, aK_nil_p, aK_cond, abr_true, abr_false, astep_call, aret_ret, aret_pan, astep_dfr, afin_ret, afin_normal, afin_pan, oload_p, oloadO_box, oload_ep, aload_eq, oload1_one, oload1_agg, ostore_p, ostoreO_box, astore_eq, ostore1_some, cells_int, cells_bool, cells_string, cells_sl, cells_asl, cells_ptr, cells_mp, cells_agg, cells_ifc, cells_fn, cells_slice, cells_nilIface, cells_pointer, ofield_ptr, ofield_ep, aop_field, aop_nilCheck, onil_ptr, aop_extract, oext_tup, aop_makeFunc, aop_alloc', oalloc_some, aop_panic, opan_ifc, cond_bool, cond_int, cond_str, obin_seq, obin_sne, oc_lss, oc_leq, oc_gtr, oc_geq, oc_eql, oc_neq, oa_add, oa_sub, oa_mul, olen_str, tyL, tyA, tyS, tyU, tyF, aop_lookup, aop_update, aop_makeMap, aop_un, oun_not, aops_if, aguard_tt, aguard_ff, aguard_tf, aguard_ft, aguard_un, gslot, gval_some, aop_pick, opick_bool, cond_true, cond_false, List.getElem?_toArray, List.getElem?_cons_succ, List.getElem?_cons_zero, Option.bind_some, goInt, conv, convA, conv1, List.toList_toArray, Option.get!_some, ne_eq, not_false_eq_true, decide_false, decide_true, Int.reduceLT, Int.reduceLE, Int.reduceGT, Int.reduceGE, Int.reduceEq, Int.reduceBEq, Int.reduceBNe, Int.reduceNeg, Nat.reduceEqDiff, Nat.reduceLT, Nat.reduceAdd, Nat.reduceLeDiff, Option.map_some, List.map_cons, List.map_nil, aops_nil, aops_plain, astep_val, astep_skip, astep_pan, putA_some, putA_none, aval_tmp, aval_const, aval_global, aval_func, aop_move, aop_assign, aop_box, obox_some, aop_fieldAddr, aop_load, aop_store, aop_bin, aop_call, aop_len, aop_max, omax_int, List.length_set, getD_set_self, getD_set_ne, List.length_cons, List.length_nil, List.nil_append, List.cons_append, List.append_nil, List.set_cons_zero, List.set_cons_succ, Nat.zero_add, Nat.add_zero, List.drop_succ_cons, List.drop_zero, List.take_succ_cons, List.take_zero, splice, List.all_cons, List.all_nil, AV.one, Bool.and_true, Bool.and_self, and_self, if_true, if_false, reduceCtorEq, Bool.not_true, Bool.not_false, Bool.true_and, Bool.false_and, VT.enc, hb, htm, h00, hret, hnor, ocall_fn code21, h21, hd, hd2] at hq)
  all_goals (subst hq; rw [gives_some])
theorem walk16_ok {call : CallFn} {n : Nat} {k : Int} {f ng : Bool} {d : ByteArray} {e b : Int} {t : ByteArray} {ns : List ByteArray} {l : List VT} {H3 H4 : Heap} {s : ByteArray} (h21 : ∀ H, call 21 [.agg (VT.enc (.mk k f ng d e b t ns l))] H = some (.ret (.v (.int .i64 0)), H))
    (h29 : call 29 [.ptr 1 0, .agg (VT.enc (.mk k f ng d e b t ns l))] [.box 29 (VT.enc (.mk k f ng d e b t ns l)), .box 46 [.v (.pointer none), .v (.slice none 0 0)]] = some (.ret (.tup []), H3)) (h23 : call 23 [.ptr 1 0] H3 = some (.ret (.v (.int .i64 s.size)), H3)) (h24 : call 24 [.ptr 1 0] H3 = some (.ret (.v (.string s)), H4)) :
    Gives (abody E call n Tryz.f16 (Tryz.f16.body.get!) [.agg (VT.enc (.mk k f ng d e b t ns l))] []) (.ret (if s.size ≤ 65536 then .tup [.sl s.size (bytesAV s), .v (.int .i64 0)] else .tup [.v (.slice none 0 0), .v (.int .i64 2)])) := by
  rw [abody_K]
  obtain ⟨tm0, htm, h00, hfr⟩ : ∃ tm0 : List AV, tm0.length = 17 ∧ tm0.getD 0 (.v undef) = .agg (VT.enc (.mk k f ng d e b t ns l)) ∧ aframe E Tryz.f16 [.agg (VT.enc (.mk k f ng d e b t ns l))] [] = ⟨tm0, [], []⟩ := ⟨_, rfl, rfl, rfl⟩
  rw [hfr]
  obtain ⟨fin, hfin, hret, hnor⟩ : ∃ fin, fin = afin E call n Tryz.f16 ∧ (∀ tm H, fin (some (.ret, ⟨tm, [], H⟩)) = some (.ret (.tup [tm.getD 2 (.v undef), tm.getD 3 (.v undef)]), H)) ∧ ∀ tm H, fin (some (.normal, ⟨tm, [], H⟩)) = some (.ret (.tup [tm.getD 2 (.v undef), tm.getD 3 (.v undef)]), H) := ⟨_, rfl, fun _ _ => rfl, fun _ _ => rfl⟩
  rw [← hfin]
  generalize hq : aK E call n fin [] (acode E call n (Tryz.f16.body.get!) ⟨tm0, [], []⟩) = q
  simp [Tryz.f16] at hq
  simp only [VT.enc] at h21 h29
  by_cases hs : s.size ≤ 65536
  · rw [if_pos hs]
    have hd : decide ((s.size : Int) > 65536) = false := by simp; omega
    have hb : (Code.skip = Code.skip) ↔ True := by simp
    repeat' (first
      | (simp only [cond_iff, guardT_iff, guardF_iff, aret_iff, kguardT_iff, kguardF_iff] at hq; rcases hq with ⟨hb, hq⟩ | ⟨hb, hq⟩)
      | simp only [kops_nil, kops_plain, kops_if, kstep_val, kstep_skip, kstep_call, kret_ret, kguard_tt, kguard_ff, kguard_tf, kguard_ft, kguard_un, kone_plain, koneS_val, koneS_skip, koneS_call, koneR_ret, aK_seq, aK_block, aK_region, aK_skip, aK_exit, aK_ret, aK_loop, aK_seq_n, aK_seq_e, aK_seq_r, aK_seq_p, aK_blk_n, aK_blk_e, aK_blk_r, aK_blk_p, aK_nil_n, aK_nil_e, aK_nil_r, aK_nil_p, aK_cond, abr_true, abr_false, astep_call, aret_ret, aret_pan, astep_dfr, afin_ret, afin_normal, afin_pan, oload_p, oloadO_box, oload_ep, aload_eq, oload1_one, oload1_agg, ostore_p, ostoreO_box, astore_eq, ostore1_some, cells_int, cells_bool, cells_string, cells_sl, cells_asl, cells_ptr, cells_mp, cells_agg, cells_ifc, cells_fn, cells_slice, cells_nilIface, cells_pointer, ofield_ptr, ofield_ep, aop_field, aop_nilCheck, onil_ptr, aop_extract, oext_tup, aop_makeFunc, aop_alloc', oalloc_some, aop_panic, opan_ifc, cond_bool, cond_int, cond_str, obin_seq, obin_sne, oc_lss, oc_leq, oc_gtr, oc_geq, oc_eql, oc_neq, oa_add, oa_sub, oa_mul, olen_str, tyL, tyA, tyS, tyU, tyF, aop_lookup, aop_update, aop_makeMap, aop_un, oun_not, aops_if, aguard_tt, aguard_ff, aguard_tf, aguard_ft, aguard_un, gslot, gval_some, aop_pick, opick_bool, cond_true, cond_false, List.getElem?_toArray, List.getElem?_cons_succ, List.getElem?_cons_zero, Option.bind_some, goInt, conv, convA, conv1, List.toList_toArray, Option.get!_some, ne_eq, not_false_eq_true, decide_false, decide_true, Int.reduceLT, Int.reduceLE, Int.reduceGT, Int.reduceGE, Int.reduceEq, Int.reduceBEq, Int.reduceBNe, Int.reduceNeg, Nat.reduceEqDiff, Nat.reduceLT, Nat.reduceAdd, Nat.reduceLeDiff, Option.map_some, List.map_cons, List.map_nil, aops_nil, aops_plain, astep_val, astep_skip, astep_pan, putA_some, putA_none, aval_tmp, aval_const, aval_global, aval_func, aop_move, aop_assign, aop_box, obox_some, aop_fieldAddr, aop_load, aop_store, aop_bin, aop_call, aop_len, aop_max, omax_int, List.length_set, getD_set_self, getD_set_ne, List.length_cons, List.length_nil, List.nil_append, List.cons_append, List.append_nil, List.set_cons_zero, List.set_cons_succ, Nat.zero_add, Nat.add_zero, List.drop_succ_cons, List.drop_zero, List.take_succ_cons, List.take_zero, splice, List.all_cons, List.all_nil, AV.one, Bool.and_true, Bool.and_self, and_self, if_true, if_false, reduceCtorEq, Bool.not_true, Bool.not_false, Bool.true_and, Bool.false_and, VT.enc, hb, htm, h00, hret, hnor, ocall_fn code21, ocall_fn code29, ocall_fn code23, ocall_fn code24, h21, h29, h23, h24, hd, z46, aop_conv, bytes_sl] at hq)
    all_goals (subst hq; rw [gives_some])
  · rw [if_neg hs]
    have hd : decide ((s.size : Int) > 65536) = true := by simp; omega
    have hb : (Code.skip = Code.skip) ↔ True := by simp
    repeat' (first
      | (simp only [cond_iff, guardT_iff, guardF_iff, aret_iff, kguardT_iff, kguardF_iff] at hq; rcases hq with ⟨hb, hq⟩ | ⟨hb, hq⟩)
      | simp only [kops_nil, kops_plain, kops_if, kstep_val, kstep_skip, kstep_call, kret_ret, kguard_tt, kguard_ff, kguard_tf, kguard_ft, kguard_un, kone_plain, koneS_val, koneS_skip, koneS_call, koneR_ret, aK_seq, aK_block, aK_region, aK_skip, aK_exit, aK_ret, aK_loop, aK_seq_n, aK_seq_e, aK_seq_r, aK_seq_p, aK_blk_n, aK_blk_e, aK_blk_r, aK_blk_p, aK_nil_n, aK_nil_e, aK_nil_r, aK_nil_p, aK_cond, abr_true, abr_false, astep_call, aret_ret, aret_pan, astep_dfr, afin_ret, afin_normal, afin_pan, oload_p, oloadO_box, oload_ep, aload_eq, oload1_one, oload1_agg, ostore_p, ostoreO_box, astore_eq, ostore1_some, cells_int, cells_bool, cells_string, cells_sl, cells_asl, cells_ptr, cells_mp, cells_agg, cells_ifc, cells_fn, cells_slice, cells_nilIface, cells_pointer, ofield_ptr, ofield_ep, aop_field, aop_nilCheck, onil_ptr, aop_extract, oext_tup, aop_makeFunc, aop_alloc', oalloc_some, aop_panic, opan_ifc, cond_bool, cond_int, cond_str, obin_seq, obin_sne, oc_lss, oc_leq, oc_gtr, oc_geq, oc_eql, oc_neq, oa_add, oa_sub, oa_mul, olen_str, tyL, tyA, tyS, tyU, tyF, aop_lookup, aop_update, aop_makeMap, aop_un, oun_not, aops_if, aguard_tt, aguard_ff, aguard_tf, aguard_ft, aguard_un, gslot, gval_some, aop_pick, opick_bool, cond_true, cond_false, List.getElem?_toArray, List.getElem?_cons_succ, List.getElem?_cons_zero, Option.bind_some, goInt, conv, convA, conv1, List.toList_toArray, Option.get!_some, ne_eq, not_false_eq_true, decide_false, decide_true, Int.reduceLT, Int.reduceLE, Int.reduceGT, Int.reduceGE, Int.reduceEq, Int.reduceBEq, Int.reduceBNe, Int.reduceNeg, Nat.reduceEqDiff, Nat.reduceLT, Nat.reduceAdd, Nat.reduceLeDiff, Option.map_some, List.map_cons, List.map_nil, aops_nil, aops_plain, astep_val, astep_skip, astep_pan, putA_some, putA_none, aval_tmp, aval_const, aval_global, aval_func, aop_move, aop_assign, aop_box, obox_some, aop_fieldAddr, aop_load, aop_store, aop_bin, aop_call, aop_len, aop_max, omax_int, List.length_set, getD_set_self, getD_set_ne, List.length_cons, List.length_nil, List.nil_append, List.cons_append, List.append_nil, List.set_cons_zero, List.set_cons_succ, Nat.zero_add, Nat.add_zero, List.drop_succ_cons, List.drop_zero, List.take_succ_cons, List.take_zero, splice, List.all_cons, List.all_nil, AV.one, Bool.and_true, Bool.and_self, and_self, if_true, if_false, reduceCtorEq, Bool.not_true, Bool.not_false, Bool.true_and, Bool.false_and, VT.enc, hb, htm, h00, hret, hnor, ocall_fn code21, ocall_fn code29, ocall_fn code23, ocall_fn code24, h21, h29, h23, h24, hd, z46, aop_conv, bytes_sl] at hq)
    all_goals (subst hq; rw [gives_some])
end Go.AI.Jx
end
section
set_option linter.all false
set_option maxRecDepth 100000
namespace Go.AI.Jx
open Go Go.Proofs
/-- A list that was made by the law itself: its names are nil. -/
def listA (l : List VT) : List AV := [.v (.int .i64 7), .v (.bool false), .v (.bool false), .v (.string ⟨#[]⟩), .v (.int .i64 0), .v (.int .u64 0), .v (.string ⟨#[]⟩), .v (.slice none 0 0), .sl l.length (VT.encL l)]
theorem bs27 {ρ : Operand → AV} {dst : Option Tmp} {ty : TypeId} {pos : String} {after : Array Edge} {gd : Option (Nat × Bool)} {H : Heap} {tt uu : Tmp} {x y : VT} (h : ρ (.tmp tt) = .agg x.enc) (h' : ρ (.tmp uu) = .agg y.enc) :
    aop E ρ ⟨dst, .buildSlice 27 2 #[(0, .tmp tt), (1, .tmp uu)], ty, pos, after, gd⟩ H = some (.val (.sl 2 (VT.encL [x, y])), H) := by
  have h3 : zeroT E.P 29 = some (.agg #[.int .i64 0, .bool false, .bool false, .string ⟨#[]⟩, .int .i64 0, .int .u64 0, .string ⟨#[]⟩, .slice none 0 0, .slice none 0 0]) := by kernel_rfl
  have h4 : byteT E.P 29 = false := by kernel_rfl
  have hx := enc_length x
  have hy := enc_length y
  have ox := enc_one x
  have oy := enc_one y
  obtain ⟨kx, fx, ngx, dx, ex, bx, tx, nsx, lx⟩ := x
  obtain ⟨ky, fy, ngy, dy, ey, by_, ty_, nsy, ly⟩ := y
  simp only [VT.enc] at h h' ox oy
  simp [aop, und27, size29, h3, h4, h, h', conv, convA, conv1, AV.cells?, repeatCells, afill, splice, Region.isConst, VT.encL, VT.enc, AV.one]
theorem build29 {ρ : Operand → AV} {dst : Option Tmp} {ty : TypeId} {pos : String} {after : Array Edge} {gd : Option (Nat × Bool)} {H : Heap} {tt : Tmp} {l : List VT} (hc : ρ (.const (.int .i64 7)) = .v (.int .i64 7)) (h : ρ (.tmp tt) = .sl l.length (VT.encL l)) :
    aop E ρ ⟨dst, .build 29 #[(0, .const (.int .i64 7)), (6, .tmp tt)], ty, pos, after, gd⟩ H = some (.val (.agg (listA l)), H) := by
  have h3 : zeroT E.P 29 = some (.agg #[.int .i64 0, .bool false, .bool false, .string ⟨#[]⟩, .int .i64 0, .int .u64 0, .string ⟨#[]⟩, .slice none 0 0, .slice none 0 0]) := by kernel_rfl
  obtain ⟨fields, h0, h6⟩ : ∃ fields, E.P.underlying 29 = some (.struct fields) ∧ (fields.toList.mapM fun f => (sizeT E.P f.type).map fun n => (f.offset, n)) = some [(0, 1), (1, 1), (2, 3), (5, 1), (6, 1), (7, 1), (8, 1)] :=
    ⟨(match E.P.underlying 29 with | some (.struct f) => f | _ => #[]), by kernel_rfl, by kernel_rfl⟩
  simp [aop, h0, h3, h6, h, hc, conv, convA, conv1, AV.cells?, afill, splice, listA, AV.one]
theorem walk7_A {call : CallFn} {n : Nat} {k1 : Int} {f1 ng1 : Bool} {d1 : ByteArray} {e1 b1 : Int} {t1 : ByteArray} {ns1 : List ByteArray} {l1 : List VT} {k2 : Int} {f2 ng2 : Bool} {d2 : ByteArray} {e2 b2 : Int} {t2 : ByteArray} {ns2 : List ByteArray} {l2 : List VT} (h9a : ∀ H, call 9 [.agg (VT.enc (.mk k1 f1 ng1 d1 e1 b1 t1 ns1 l1))] H = some (.ret (.v (.bool true)), H)) :
    Gives (abody E call n Tryz.f7 (Tryz.f7.body.get!) [.agg (VT.enc (.mk k1 f1 ng1 d1 e1 b1 t1 ns1 l1)), .agg (VT.enc (.mk k2 f2 ng2 d2 e2 b2 t2 ns2 l2))] []) (.ret (.v (.bool true))) := by
  rw [abody_K]
  obtain ⟨tm0, htm, h00, h01, hfr⟩ : ∃ tm0 : List AV, tm0.length = 71 ∧ tm0.getD 0 (.v undef) = .agg (VT.enc (.mk k1 f1 ng1 d1 e1 b1 t1 ns1 l1)) ∧ tm0.getD 1 (.v undef) = .agg (VT.enc (.mk k2 f2 ng2 d2 e2 b2 t2 ns2 l2)) ∧ aframe E Tryz.f7 [.agg (VT.enc (.mk k1 f1 ng1 d1 e1 b1 t1 ns1 l1)), .agg (VT.enc (.mk k2 f2 ng2 d2 e2 b2 t2 ns2 l2))] [] = ⟨tm0, [], []⟩ := ⟨_, rfl, rfl, rfl, rfl⟩
  rw [hfr]
  obtain ⟨fin, hfin, hret, hnor⟩ : ∃ fin, fin = afin E call n Tryz.f7 ∧ (∀ tm H, fin (some (.ret, ⟨tm, [], H⟩)) = some (.ret (tm.getD 4 (.v undef)), H)) ∧ ∀ tm H, fin (some (.normal, ⟨tm, [], H⟩)) = some (.ret (tm.getD 4 (.v undef)), H) := ⟨_, rfl, fun _ _ => rfl, fun _ _ => rfl⟩
  rw [← hfin]
  generalize hq : aK E call n fin [] (acode E call n (Tryz.f7.body.get!) ⟨tm0, [], []⟩) = q
  simp [Tryz.f7] at hq
  simp only [VT.enc] at h9a
  have hb : (Code.skip = Code.skip) ↔ True := by simp
  repeat' (first
    | (simp only [cond_iff, guardT_iff, guardF_iff, aret_iff, kguardT_iff, kguardF_iff] at hq; rcases hq with ⟨hb, hq⟩ | ⟨hb, hq⟩)
    | simp only [kops_nil, kops_plain, kops_if, kstep_val, kstep_skip, kstep_call, kret_ret, kguard_tt, kguard_ff, kguard_tf, kguard_ft, kguard_un, kone_plain, koneS_val, koneS_skip, koneS_call, koneR_ret, aK_seq, aK_block, aK_region, aK_skip, aK_exit, aK_ret, aK_loop, aK_seq_n, aK_seq_e, aK_seq_r, aK_seq_p, aK_blk_n, aK_blk_e, aK_blk_r, aK_blk_p, aK_nil_n, aK_nil_e, aK_nil_r, aK_nil_p, aK_cond, abr_true, abr_false, astep_call, aret_ret, aret_pan, astep_dfr, afin_ret, afin_normal, afin_pan, oload_p, oloadO_box, oload_ep, aload_eq, oload1_one, oload1_agg, ostore_p, ostoreO_box, astore_eq, ostore1_some, cells_int, cells_bool, cells_string, cells_sl, cells_asl, cells_ptr, cells_mp, cells_agg, cells_ifc, cells_fn, cells_slice, cells_nilIface, cells_pointer, ofield_ptr, ofield_ep, aop_field, aop_nilCheck, onil_ptr, aop_extract, oext_tup, aop_makeFunc, aop_alloc', oalloc_some, aop_panic, opan_ifc, cond_bool, cond_int, cond_str, obin_seq, obin_sne, oc_lss, oc_leq, oc_gtr, oc_geq, oc_eql, oc_neq, oa_add, oa_sub, oa_mul, olen_str, tyL, tyA, tyS, tyU, tyF, aop_lookup, aop_update, aop_makeMap, aop_un, oun_not, aops_if, aguard_tt, aguard_ff, aguard_tf, aguard_ft, aguard_un, gslot, gval_some, aop_pick, opick_bool, cond_true, cond_false, List.getElem?_toArray, List.getElem?_cons_succ, List.getElem?_cons_zero, Option.bind_some, goInt, conv, convA, conv1, List.toList_toArray, Option.get!_some, ne_eq, not_false_eq_true, decide_false, decide_true, Int.reduceLT, Int.reduceLE, Int.reduceGT, Int.reduceGE, Int.reduceEq, Int.reduceBEq, Int.reduceBNe, Int.reduceNeg, Nat.reduceEqDiff, Nat.reduceLT, Nat.reduceAdd, Nat.reduceLeDiff, Option.map_some, List.map_cons, List.map_nil, aops_nil, aops_plain, astep_val, astep_skip, astep_pan, putA_some, putA_none, aval_tmp, aval_const, aval_global, aval_func, aop_move, aop_assign, aop_box, obox_some, aop_fieldAddr, aop_load, aop_store, aop_bin, aop_call, aop_len, aop_max, omax_int, List.length_set, getD_set_self, getD_set_ne, List.length_cons, List.length_nil, List.nil_append, List.cons_append, List.append_nil, List.set_cons_zero, List.set_cons_succ, Nat.zero_add, Nat.add_zero, List.drop_succ_cons, List.drop_zero, List.take_succ_cons, List.take_zero, splice, List.all_cons, List.all_nil, AV.one, Bool.and_true, Bool.and_self, and_self, if_true, if_false, reduceCtorEq, Bool.not_true, Bool.not_false, Bool.true_and, Bool.false_and, VT.enc, hb, htm, h00, h01, hret, hnor, ocall_fn code9, ocall_fn code16, ocall_fn code18, h9a] at hq)
  all_goals (subst hq; rw [gives_some])
theorem walk7_B {call : CallFn} {n : Nat} {k1 : Int} {f1 ng1 : Bool} {d1 : ByteArray} {e1 b1 : Int} {t1 : ByteArray} {ns1 : List ByteArray} {l1 : List VT} {k2 : Int} {f2 ng2 : Bool} {d2 : ByteArray} {e2 b2 : Int} {t2 : ByteArray} {ns2 : List ByteArray} {l2 : List VT} (h9a : ∀ H, call 9 [.agg (VT.enc (.mk k1 f1 ng1 d1 e1 b1 t1 ns1 l1))] H = some (.ret (.v (.bool false)), H)) (h9b : ∀ H, call 9 [.agg (VT.enc (.mk k2 f2 ng2 d2 e2 b2 t2 ns2 l2))] H = some (.ret (.v (.bool true)), H)) :
    Gives (abody E call n Tryz.f7 (Tryz.f7.body.get!) [.agg (VT.enc (.mk k1 f1 ng1 d1 e1 b1 t1 ns1 l1)), .agg (VT.enc (.mk k2 f2 ng2 d2 e2 b2 t2 ns2 l2))] []) (.ret (.v (.bool true))) := by
  rw [abody_K]
  obtain ⟨tm0, htm, h00, h01, hfr⟩ : ∃ tm0 : List AV, tm0.length = 71 ∧ tm0.getD 0 (.v undef) = .agg (VT.enc (.mk k1 f1 ng1 d1 e1 b1 t1 ns1 l1)) ∧ tm0.getD 1 (.v undef) = .agg (VT.enc (.mk k2 f2 ng2 d2 e2 b2 t2 ns2 l2)) ∧ aframe E Tryz.f7 [.agg (VT.enc (.mk k1 f1 ng1 d1 e1 b1 t1 ns1 l1)), .agg (VT.enc (.mk k2 f2 ng2 d2 e2 b2 t2 ns2 l2))] [] = ⟨tm0, [], []⟩ := ⟨_, rfl, rfl, rfl, rfl⟩
  rw [hfr]
  obtain ⟨fin, hfin, hret, hnor⟩ : ∃ fin, fin = afin E call n Tryz.f7 ∧ (∀ tm H, fin (some (.ret, ⟨tm, [], H⟩)) = some (.ret (tm.getD 4 (.v undef)), H)) ∧ ∀ tm H, fin (some (.normal, ⟨tm, [], H⟩)) = some (.ret (tm.getD 4 (.v undef)), H) := ⟨_, rfl, fun _ _ => rfl, fun _ _ => rfl⟩
  rw [← hfin]
  generalize hq : aK E call n fin [] (acode E call n (Tryz.f7.body.get!) ⟨tm0, [], []⟩) = q
  simp [Tryz.f7] at hq
  simp only [VT.enc] at h9a h9b
  have hb : (Code.skip = Code.skip) ↔ True := by simp
  repeat' (first
    | (simp only [cond_iff, guardT_iff, guardF_iff, aret_iff, kguardT_iff, kguardF_iff] at hq; rcases hq with ⟨hb, hq⟩ | ⟨hb, hq⟩)
    | simp only [kops_nil, kops_plain, kops_if, kstep_val, kstep_skip, kstep_call, kret_ret, kguard_tt, kguard_ff, kguard_tf, kguard_ft, kguard_un, kone_plain, koneS_val, koneS_skip, koneS_call, koneR_ret, aK_seq, aK_block, aK_region, aK_skip, aK_exit, aK_ret, aK_loop, aK_seq_n, aK_seq_e, aK_seq_r, aK_seq_p, aK_blk_n, aK_blk_e, aK_blk_r, aK_blk_p, aK_nil_n, aK_nil_e, aK_nil_r, aK_nil_p, aK_cond, abr_true, abr_false, astep_call, aret_ret, aret_pan, astep_dfr, afin_ret, afin_normal, afin_pan, oload_p, oloadO_box, oload_ep, aload_eq, oload1_one, oload1_agg, ostore_p, ostoreO_box, astore_eq, ostore1_some, cells_int, cells_bool, cells_string, cells_sl, cells_asl, cells_ptr, cells_mp, cells_agg, cells_ifc, cells_fn, cells_slice, cells_nilIface, cells_pointer, ofield_ptr, ofield_ep, aop_field, aop_nilCheck, onil_ptr, aop_extract, oext_tup, aop_makeFunc, aop_alloc', oalloc_some, aop_panic, opan_ifc, cond_bool, cond_int, cond_str, obin_seq, obin_sne, oc_lss, oc_leq, oc_gtr, oc_geq, oc_eql, oc_neq, oa_add, oa_sub, oa_mul, olen_str, tyL, tyA, tyS, tyU, tyF, aop_lookup, aop_update, aop_makeMap, aop_un, oun_not, aops_if, aguard_tt, aguard_ff, aguard_tf, aguard_ft, aguard_un, gslot, gval_some, aop_pick, opick_bool, cond_true, cond_false, List.getElem?_toArray, List.getElem?_cons_succ, List.getElem?_cons_zero, Option.bind_some, goInt, conv, convA, conv1, List.toList_toArray, Option.get!_some, ne_eq, not_false_eq_true, decide_false, decide_true, Int.reduceLT, Int.reduceLE, Int.reduceGT, Int.reduceGE, Int.reduceEq, Int.reduceBEq, Int.reduceBNe, Int.reduceNeg, Nat.reduceEqDiff, Nat.reduceLT, Nat.reduceAdd, Nat.reduceLeDiff, Option.map_some, List.map_cons, List.map_nil, aops_nil, aops_plain, astep_val, astep_skip, astep_pan, putA_some, putA_none, aval_tmp, aval_const, aval_global, aval_func, aop_move, aop_assign, aop_box, obox_some, aop_fieldAddr, aop_load, aop_store, aop_bin, aop_call, aop_len, aop_max, omax_int, List.length_set, getD_set_self, getD_set_ne, List.length_cons, List.length_nil, List.nil_append, List.cons_append, List.append_nil, List.set_cons_zero, List.set_cons_succ, Nat.zero_add, Nat.add_zero, List.drop_succ_cons, List.drop_zero, List.take_succ_cons, List.take_zero, splice, List.all_cons, List.all_nil, AV.one, Bool.and_true, Bool.and_self, and_self, if_true, if_false, reduceCtorEq, Bool.not_true, Bool.not_false, Bool.true_and, Bool.false_and, VT.enc, hb, htm, h00, h01, hret, hnor, ocall_fn code9, ocall_fn code16, ocall_fn code18, h9a, h9b] at hq)
  all_goals (subst hq; rw [gives_some])
theorem walk7_C00 {call : CallFn} {n : Nat} {k1 : Int} {f1 ng1 : Bool} {d1 : ByteArray} {e1 b1 : Int} {t1 : ByteArray} {ns1 : List ByteArray} {l1 : List VT} {k2 : Int} {f2 ng2 : Bool} {d2 : ByteArray} {e2 b2 : Int} {t2 : ByteArray} {ns2 : List ByteArray} {l2 : List VT} {X1 X2 X3 : AV} {c1 c2 c3 : Int} (h9a : ∀ H, call 9 [.agg (VT.enc (.mk k1 f1 ng1 d1 e1 b1 t1 ns1 l1))] H = some (.ret (.v (.bool false)), H)) (h9b : ∀ H, call 9 [.agg (VT.enc (.mk k2 f2 ng2 d2 e2 b2 t2 ns2 l2))] H = some (.ret (.v (.bool false)), H)) (h18 : ∀ H, call 18 [] H = some (.ret (.v (.bool true)), H))
    (h16a : ∀ H, call 16 [.agg (VT.enc (.mk k1 f1 ng1 d1 e1 b1 t1 ns1 l1))] H = some (.ret (.tup [X1, .v (.int .i64 c1)]), H)) (h16b : ∀ H, call 16 [.agg (VT.enc (.mk k2 f2 ng2 d2 e2 b2 t2 ns2 l2))] H = some (.ret (.tup [X2, .v (.int .i64 c2)]), H))
    (h16c : ∀ H, call 16 [.agg (listA [.mk k1 f1 ng1 d1 e1 b1 t1 ns1 l1, .mk k2 f2 ng2 d2 e2 b2 t2 ns2 l2])] H = some (.ret (.tup [X3, .v (.int .i64 c3)]), H)) (g1 : (c1 != 0) = true) (g2 : (c2 != 0) = true) (g3 : (c3 != 0) = true) :
    Gives (abody E call n Tryz.f7 (Tryz.f7.body.get!) [.agg (VT.enc (.mk k1 f1 ng1 d1 e1 b1 t1 ns1 l1)), .agg (VT.enc (.mk k2 f2 ng2 d2 e2 b2 t2 ns2 l2))] []) (.ret (.v (.bool true))) := by
  rw [abody_K]
  obtain ⟨tm0, htm, h00, h01, hfr⟩ : ∃ tm0 : List AV, tm0.length = 71 ∧ tm0.getD 0 (.v undef) = .agg (VT.enc (.mk k1 f1 ng1 d1 e1 b1 t1 ns1 l1)) ∧ tm0.getD 1 (.v undef) = .agg (VT.enc (.mk k2 f2 ng2 d2 e2 b2 t2 ns2 l2)) ∧ aframe E Tryz.f7 [.agg (VT.enc (.mk k1 f1 ng1 d1 e1 b1 t1 ns1 l1)), .agg (VT.enc (.mk k2 f2 ng2 d2 e2 b2 t2 ns2 l2))] [] = ⟨tm0, [], []⟩ := ⟨_, rfl, rfl, rfl, rfl⟩
  rw [hfr]
  obtain ⟨fin, hfin, hret, hnor⟩ : ∃ fin, fin = afin E call n Tryz.f7 ∧ (∀ tm H, fin (some (.ret, ⟨tm, [], H⟩)) = some (.ret (tm.getD 4 (.v undef)), H)) ∧ ∀ tm H, fin (some (.normal, ⟨tm, [], H⟩)) = some (.ret (tm.getD 4 (.v undef)), H) := ⟨_, rfl, fun _ _ => rfl, fun _ _ => rfl⟩
  rw [← hfin]
  generalize hq : aK E call n fin [] (acode E call n (Tryz.f7.body.get!) ⟨tm0, [], []⟩) = q
  simp [Tryz.f7] at hq
  generalize hL : (listA [.mk k1 f1 ng1 d1 e1 b1 t1 ns1 l1, .mk k2 f2 ng2 d2 e2 b2 t2 ns2 l2]) = cl at h16c
  have hbs := fun (ρ : Operand → AV) dst ty pos after gd H tt uu => @bs27 ρ dst ty pos after gd H tt uu (.mk k1 f1 ng1 d1 e1 b1 t1 ns1 l1) (.mk k2 f2 ng2 d2 e2 b2 t2 ns2 l2)
  have hbd := fun (tm : List AV) dst ty pos after gd H tt => @build29 (aval E tm) dst ty pos after gd H tt [(.mk k1 f1 ng1 d1 e1 b1 t1 ns1 l1), (.mk k2 f2 ng2 d2 e2 b2 t2 ns2 l2)] rfl
  simp only [List.length_cons, List.length_nil, Nat.zero_add, Nat.reduceAdd] at hbd
  simp only [VT.enc] at h9a h9b h16a h16b hbs
  have hb : (Code.skip = Code.skip) ↔ True := by simp
  repeat' (first
    | (simp only [cond_iff, guardT_iff, guardF_iff, aret_iff, kguardT_iff, kguardF_iff] at hq; rcases hq with ⟨hb, hq⟩ | ⟨hb, hq⟩)
    | simp only [kops_nil, kops_plain, kops_if, kstep_val, kstep_skip, kstep_call, kret_ret, kguard_tt, kguard_ff, kguard_tf, kguard_ft, kguard_un, kone_plain, koneS_val, koneS_skip, koneS_call, koneR_ret, aK_seq, aK_block, aK_region, aK_skip, aK_exit, aK_ret, aK_loop, aK_seq_n, aK_seq_e, aK_seq_r, aK_seq_p, aK_blk_n, aK_blk_e, aK_blk_r, aK_blk_p, aK_nil_n, aK_nil_e, aK_nil_r, aK_nil_p, aK_cond, abr_true, abr_false, astep_call, aret_ret, aret_pan, astep_dfr, afin_ret, afin_normal, afin_pan, oload_p, oloadO_box, oload_ep, aload_eq, oload1_one, oload1_agg, ostore_p, ostoreO_box, astore_eq, ostore1_some, cells_int, cells_bool, cells_string, cells_sl, cells_asl, cells_ptr, cells_mp, cells_agg, cells_ifc, cells_fn, cells_slice, cells_nilIface, cells_pointer, ofield_ptr, ofield_ep, aop_field, aop_nilCheck, onil_ptr, aop_extract, oext_tup, aop_makeFunc, aop_alloc', oalloc_some, aop_panic, opan_ifc, cond_bool, cond_int, cond_str, obin_seq, obin_sne, oc_lss, oc_leq, oc_gtr, oc_geq, oc_eql, oc_neq, oa_add, oa_sub, oa_mul, olen_str, tyL, tyA, tyS, tyU, tyF, aop_lookup, aop_update, aop_makeMap, aop_un, oun_not, aops_if, aguard_tt, aguard_ff, aguard_tf, aguard_ft, aguard_un, gslot, gval_some, aop_pick, opick_bool, cond_true, cond_false, List.getElem?_toArray, List.getElem?_cons_succ, List.getElem?_cons_zero, Option.bind_some, goInt, conv, convA, conv1, List.toList_toArray, Option.get!_some, ne_eq, not_false_eq_true, decide_false, decide_true, Int.reduceLT, Int.reduceLE, Int.reduceGT, Int.reduceGE, Int.reduceEq, Int.reduceBEq, Int.reduceBNe, Int.reduceNeg, Nat.reduceEqDiff, Nat.reduceLT, Nat.reduceAdd, Nat.reduceLeDiff, Option.map_some, List.map_cons, List.map_nil, aops_nil, aops_plain, astep_val, astep_skip, astep_pan, putA_some, putA_none, aval_tmp, aval_const, aval_global, aval_func, aop_move, aop_assign, aop_box, obox_some, aop_fieldAddr, aop_load, aop_store, aop_bin, aop_call, aop_len, aop_max, omax_int, List.length_set, getD_set_self, getD_set_ne, List.length_cons, List.length_nil, List.nil_append, List.cons_append, List.append_nil, List.set_cons_zero, List.set_cons_succ, Nat.zero_add, Nat.add_zero, List.drop_succ_cons, List.drop_zero, List.take_succ_cons, List.take_zero, splice, List.all_cons, List.all_nil, AV.one, Bool.and_true, Bool.and_self, and_self, if_true, if_false, reduceCtorEq, Bool.not_true, Bool.not_false, Bool.true_and, Bool.false_and, VT.enc, hb, htm, h00, h01, hret, hnor, ocall_fn code9, ocall_fn code16, ocall_fn code18, h9a, h9b, h16a, h16b, h16c, h18, g1, g2, g3, hbd, hbs, hL] at hq)
  all_goals (subst hq; rw [gives_some])
theorem walk7_C01 {call : CallFn} {n : Nat} {k1 : Int} {f1 ng1 : Bool} {d1 : ByteArray} {e1 b1 : Int} {t1 : ByteArray} {ns1 : List ByteArray} {l1 : List VT} {k2 : Int} {f2 ng2 : Bool} {d2 : ByteArray} {e2 b2 : Int} {t2 : ByteArray} {ns2 : List ByteArray} {l2 : List VT} {X1 X2 X3 : AV} {c1 c2 c3 : Int} (h9a : ∀ H, call 9 [.agg (VT.enc (.mk k1 f1 ng1 d1 e1 b1 t1 ns1 l1))] H = some (.ret (.v (.bool false)), H)) (h9b : ∀ H, call 9 [.agg (VT.enc (.mk k2 f2 ng2 d2 e2 b2 t2 ns2 l2))] H = some (.ret (.v (.bool false)), H)) (h18 : ∀ H, call 18 [] H = some (.ret (.v (.bool true)), H))
    (h16a : ∀ H, call 16 [.agg (VT.enc (.mk k1 f1 ng1 d1 e1 b1 t1 ns1 l1))] H = some (.ret (.tup [X1, .v (.int .i64 c1)]), H)) (h16b : ∀ H, call 16 [.agg (VT.enc (.mk k2 f2 ng2 d2 e2 b2 t2 ns2 l2))] H = some (.ret (.tup [X2, .v (.int .i64 c2)]), H))
    (h16c : ∀ H, call 16 [.agg (listA [.mk k1 f1 ng1 d1 e1 b1 t1 ns1 l1, .mk k2 f2 ng2 d2 e2 b2 t2 ns2 l2])] H = some (.ret (.tup [X3, .v (.int .i64 c3)]), H)) (g1 : (c1 != 0) = true) (g2 : (c2 != 0) = false) (g3 : (c3 != 0) = true) :
    Gives (abody E call n Tryz.f7 (Tryz.f7.body.get!) [.agg (VT.enc (.mk k1 f1 ng1 d1 e1 b1 t1 ns1 l1)), .agg (VT.enc (.mk k2 f2 ng2 d2 e2 b2 t2 ns2 l2))] []) (.ret (.v (.bool true))) := by
  rw [abody_K]
  obtain ⟨tm0, htm, h00, h01, hfr⟩ : ∃ tm0 : List AV, tm0.length = 71 ∧ tm0.getD 0 (.v undef) = .agg (VT.enc (.mk k1 f1 ng1 d1 e1 b1 t1 ns1 l1)) ∧ tm0.getD 1 (.v undef) = .agg (VT.enc (.mk k2 f2 ng2 d2 e2 b2 t2 ns2 l2)) ∧ aframe E Tryz.f7 [.agg (VT.enc (.mk k1 f1 ng1 d1 e1 b1 t1 ns1 l1)), .agg (VT.enc (.mk k2 f2 ng2 d2 e2 b2 t2 ns2 l2))] [] = ⟨tm0, [], []⟩ := ⟨_, rfl, rfl, rfl, rfl⟩
  rw [hfr]
  obtain ⟨fin, hfin, hret, hnor⟩ : ∃ fin, fin = afin E call n Tryz.f7 ∧ (∀ tm H, fin (some (.ret, ⟨tm, [], H⟩)) = some (.ret (tm.getD 4 (.v undef)), H)) ∧ ∀ tm H, fin (some (.normal, ⟨tm, [], H⟩)) = some (.ret (tm.getD 4 (.v undef)), H) := ⟨_, rfl, fun _ _ => rfl, fun _ _ => rfl⟩
  rw [← hfin]
  generalize hq : aK E call n fin [] (acode E call n (Tryz.f7.body.get!) ⟨tm0, [], []⟩) = q
  simp [Tryz.f7] at hq
  generalize hL : (listA [.mk k1 f1 ng1 d1 e1 b1 t1 ns1 l1, .mk k2 f2 ng2 d2 e2 b2 t2 ns2 l2]) = cl at h16c
  have hbs := fun (ρ : Operand → AV) dst ty pos after gd H tt uu => @bs27 ρ dst ty pos after gd H tt uu (.mk k1 f1 ng1 d1 e1 b1 t1 ns1 l1) (.mk k2 f2 ng2 d2 e2 b2 t2 ns2 l2)
  have hbd := fun (tm : List AV) dst ty pos after gd H tt => @build29 (aval E tm) dst ty pos after gd H tt [(.mk k1 f1 ng1 d1 e1 b1 t1 ns1 l1), (.mk k2 f2 ng2 d2 e2 b2 t2 ns2 l2)] rfl
  simp only [List.length_cons, List.length_nil, Nat.zero_add, Nat.reduceAdd] at hbd
  simp only [VT.enc] at h9a h9b h16a h16b hbs
  have hb : (Code.skip = Code.skip) ↔ True := by simp
  repeat' (first
    | (simp only [cond_iff, guardT_iff, guardF_iff, aret_iff, kguardT_iff, kguardF_iff] at hq; rcases hq with ⟨hb, hq⟩ | ⟨hb, hq⟩)
    | simp only [kops_nil, kops_plain, kops_if, kstep_val, kstep_skip, kstep_call, kret_ret, kguard_tt, kguard_ff, kguard_tf, kguard_ft, kguard_un, kone_plain, koneS_val, koneS_skip, koneS_call, koneR_ret, aK_seq, aK_block, aK_region, aK_skip, aK_exit, aK_ret, aK_loop, aK_seq_n, aK_seq_e, aK_seq_r, aK_seq_p, aK_blk_n, aK_blk_e, aK_blk_r, aK_blk_p, aK_nil_n, aK_nil_e, aK_nil_r, aK_nil_p, aK_cond, abr_true, abr_false, astep_call, aret_ret, aret_pan, astep_dfr, afin_ret, afin_normal, afin_pan, oload_p, oloadO_box, oload_ep, aload_eq, oload1_one, oload1_agg, ostore_p, ostoreO_box, astore_eq, ostore1_some, cells_int, cells_bool, cells_string, cells_sl, cells_asl, cells_ptr, cells_mp, cells_agg, cells_ifc, cells_fn, cells_slice, cells_nilIface, cells_pointer, ofield_ptr, ofield_ep, aop_field, aop_nilCheck, onil_ptr, aop_extract, oext_tup, aop_makeFunc, aop_alloc', oalloc_some, aop_panic, opan_ifc, cond_bool, cond_int, cond_str, obin_seq, obin_sne, oc_lss, oc_leq, oc_gtr, oc_geq, oc_eql, oc_neq, oa_add, oa_sub, oa_mul, olen_str, tyL, tyA, tyS, tyU, tyF, aop_lookup, aop_update, aop_makeMap, aop_un, oun_not, aops_if, aguard_tt, aguard_ff, aguard_tf, aguard_ft, aguard_un, gslot, gval_some, aop_pick, opick_bool, cond_true, cond_false, List.getElem?_toArray, List.getElem?_cons_succ, List.getElem?_cons_zero, Option.bind_some, goInt, conv, convA, conv1, List.toList_toArray, Option.get!_some, ne_eq, not_false_eq_true, decide_false, decide_true, Int.reduceLT, Int.reduceLE, Int.reduceGT, Int.reduceGE, Int.reduceEq, Int.reduceBEq, Int.reduceBNe, Int.reduceNeg, Nat.reduceEqDiff, Nat.reduceLT, Nat.reduceAdd, Nat.reduceLeDiff, Option.map_some, List.map_cons, List.map_nil, aops_nil, aops_plain, astep_val, astep_skip, astep_pan, putA_some, putA_none, aval_tmp, aval_const, aval_global, aval_func, aop_move, aop_assign, aop_box, obox_some, aop_fieldAddr, aop_load, aop_store, aop_bin, aop_call, aop_len, aop_max, omax_int, List.length_set, getD_set_self, getD_set_ne, List.length_cons, List.length_nil, List.nil_append, List.cons_append, List.append_nil, List.set_cons_zero, List.set_cons_succ, Nat.zero_add, Nat.add_zero, List.drop_succ_cons, List.drop_zero, List.take_succ_cons, List.take_zero, splice, List.all_cons, List.all_nil, AV.one, Bool.and_true, Bool.and_self, and_self, if_true, if_false, reduceCtorEq, Bool.not_true, Bool.not_false, Bool.true_and, Bool.false_and, VT.enc, hb, htm, h00, h01, hret, hnor, ocall_fn code9, ocall_fn code16, ocall_fn code18, h9a, h9b, h16a, h16b, h16c, h18, g1, g2, g3, hbd, hbs, hL] at hq)
  all_goals (subst hq; rw [gives_some])
theorem walk7_C10 {call : CallFn} {n : Nat} {k1 : Int} {f1 ng1 : Bool} {d1 : ByteArray} {e1 b1 : Int} {t1 : ByteArray} {ns1 : List ByteArray} {l1 : List VT} {k2 : Int} {f2 ng2 : Bool} {d2 : ByteArray} {e2 b2 : Int} {t2 : ByteArray} {ns2 : List ByteArray} {l2 : List VT} {X1 X2 X3 : AV} {c1 c2 c3 : Int} (h9a : ∀ H, call 9 [.agg (VT.enc (.mk k1 f1 ng1 d1 e1 b1 t1 ns1 l1))] H = some (.ret (.v (.bool false)), H)) (h9b : ∀ H, call 9 [.agg (VT.enc (.mk k2 f2 ng2 d2 e2 b2 t2 ns2 l2))] H = some (.ret (.v (.bool false)), H)) (h18 : ∀ H, call 18 [] H = some (.ret (.v (.bool true)), H))
    (h16a : ∀ H, call 16 [.agg (VT.enc (.mk k1 f1 ng1 d1 e1 b1 t1 ns1 l1))] H = some (.ret (.tup [X1, .v (.int .i64 c1)]), H)) (h16b : ∀ H, call 16 [.agg (VT.enc (.mk k2 f2 ng2 d2 e2 b2 t2 ns2 l2))] H = some (.ret (.tup [X2, .v (.int .i64 c2)]), H))
    (h16c : ∀ H, call 16 [.agg (listA [.mk k1 f1 ng1 d1 e1 b1 t1 ns1 l1, .mk k2 f2 ng2 d2 e2 b2 t2 ns2 l2])] H = some (.ret (.tup [X3, .v (.int .i64 c3)]), H)) (g1 : (c1 != 0) = false) (g2 : (c2 != 0) = true) (g3 : (c3 != 0) = true) :
    Gives (abody E call n Tryz.f7 (Tryz.f7.body.get!) [.agg (VT.enc (.mk k1 f1 ng1 d1 e1 b1 t1 ns1 l1)), .agg (VT.enc (.mk k2 f2 ng2 d2 e2 b2 t2 ns2 l2))] []) (.ret (.v (.bool true))) := by
  rw [abody_K]
  obtain ⟨tm0, htm, h00, h01, hfr⟩ : ∃ tm0 : List AV, tm0.length = 71 ∧ tm0.getD 0 (.v undef) = .agg (VT.enc (.mk k1 f1 ng1 d1 e1 b1 t1 ns1 l1)) ∧ tm0.getD 1 (.v undef) = .agg (VT.enc (.mk k2 f2 ng2 d2 e2 b2 t2 ns2 l2)) ∧ aframe E Tryz.f7 [.agg (VT.enc (.mk k1 f1 ng1 d1 e1 b1 t1 ns1 l1)), .agg (VT.enc (.mk k2 f2 ng2 d2 e2 b2 t2 ns2 l2))] [] = ⟨tm0, [], []⟩ := ⟨_, rfl, rfl, rfl, rfl⟩
  rw [hfr]
  obtain ⟨fin, hfin, hret, hnor⟩ : ∃ fin, fin = afin E call n Tryz.f7 ∧ (∀ tm H, fin (some (.ret, ⟨tm, [], H⟩)) = some (.ret (tm.getD 4 (.v undef)), H)) ∧ ∀ tm H, fin (some (.normal, ⟨tm, [], H⟩)) = some (.ret (tm.getD 4 (.v undef)), H) := ⟨_, rfl, fun _ _ => rfl, fun _ _ => rfl⟩
  rw [← hfin]
  generalize hq : aK E call n fin [] (acode E call n (Tryz.f7.body.get!) ⟨tm0, [], []⟩) = q
  simp [Tryz.f7] at hq
  generalize hL : (listA [.mk k1 f1 ng1 d1 e1 b1 t1 ns1 l1, .mk k2 f2 ng2 d2 e2 b2 t2 ns2 l2]) = cl at h16c
  have hbs := fun (ρ : Operand → AV) dst ty pos after gd H tt uu => @bs27 ρ dst ty pos after gd H tt uu (.mk k1 f1 ng1 d1 e1 b1 t1 ns1 l1) (.mk k2 f2 ng2 d2 e2 b2 t2 ns2 l2)
  have hbd := fun (tm : List AV) dst ty pos after gd H tt => @build29 (aval E tm) dst ty pos after gd H tt [(.mk k1 f1 ng1 d1 e1 b1 t1 ns1 l1), (.mk k2 f2 ng2 d2 e2 b2 t2 ns2 l2)] rfl
  simp only [List.length_cons, List.length_nil, Nat.zero_add, Nat.reduceAdd] at hbd
  simp only [VT.enc] at h9a h9b h16a h16b hbs
  have hb : (Code.skip = Code.skip) ↔ True := by simp
  repeat' (first
    | (simp only [cond_iff, guardT_iff, guardF_iff, aret_iff, kguardT_iff, kguardF_iff] at hq; rcases hq with ⟨hb, hq⟩ | ⟨hb, hq⟩)
    | simp only [kops_nil, kops_plain, kops_if, kstep_val, kstep_skip, kstep_call, kret_ret, kguard_tt, kguard_ff, kguard_tf, kguard_ft, kguard_un, kone_plain, koneS_val, koneS_skip, koneS_call, koneR_ret, aK_seq, aK_block, aK_region, aK_skip, aK_exit, aK_ret, aK_loop, aK_seq_n, aK_seq_e, aK_seq_r, aK_seq_p, aK_blk_n, aK_blk_e, aK_blk_r, aK_blk_p, aK_nil_n, aK_nil_e, aK_nil_r, aK_nil_p, aK_cond, abr_true, abr_false, astep_call, aret_ret, aret_pan, astep_dfr, afin_ret, afin_normal, afin_pan, oload_p, oloadO_box, oload_ep, aload_eq, oload1_one, oload1_agg, ostore_p, ostoreO_box, astore_eq, ostore1_some, cells_int, cells_bool, cells_string, cells_sl, cells_asl, cells_ptr, cells_mp, cells_agg, cells_ifc, cells_fn, cells_slice, cells_nilIface, cells_pointer, ofield_ptr, ofield_ep, aop_field, aop_nilCheck, onil_ptr, aop_extract, oext_tup, aop_makeFunc, aop_alloc', oalloc_some, aop_panic, opan_ifc, cond_bool, cond_int, cond_str, obin_seq, obin_sne, oc_lss, oc_leq, oc_gtr, oc_geq, oc_eql, oc_neq, oa_add, oa_sub, oa_mul, olen_str, tyL, tyA, tyS, tyU, tyF, aop_lookup, aop_update, aop_makeMap, aop_un, oun_not, aops_if, aguard_tt, aguard_ff, aguard_tf, aguard_ft, aguard_un, gslot, gval_some, aop_pick, opick_bool, cond_true, cond_false, List.getElem?_toArray, List.getElem?_cons_succ, List.getElem?_cons_zero, Option.bind_some, goInt, conv, convA, conv1, List.toList_toArray, Option.get!_some, ne_eq, not_false_eq_true, decide_false, decide_true, Int.reduceLT, Int.reduceLE, Int.reduceGT, Int.reduceGE, Int.reduceEq, Int.reduceBEq, Int.reduceBNe, Int.reduceNeg, Nat.reduceEqDiff, Nat.reduceLT, Nat.reduceAdd, Nat.reduceLeDiff, Option.map_some, List.map_cons, List.map_nil, aops_nil, aops_plain, astep_val, astep_skip, astep_pan, putA_some, putA_none, aval_tmp, aval_const, aval_global, aval_func, aop_move, aop_assign, aop_box, obox_some, aop_fieldAddr, aop_load, aop_store, aop_bin, aop_call, aop_len, aop_max, omax_int, List.length_set, getD_set_self, getD_set_ne, List.length_cons, List.length_nil, List.nil_append, List.cons_append, List.append_nil, List.set_cons_zero, List.set_cons_succ, Nat.zero_add, Nat.add_zero, List.drop_succ_cons, List.drop_zero, List.take_succ_cons, List.take_zero, splice, List.all_cons, List.all_nil, AV.one, Bool.and_true, Bool.and_self, and_self, if_true, if_false, reduceCtorEq, Bool.not_true, Bool.not_false, Bool.true_and, Bool.false_and, VT.enc, hb, htm, h00, h01, hret, hnor, ocall_fn code9, ocall_fn code16, ocall_fn code18, h9a, h9b, h16a, h16b, h16c, h18, g1, g2, g3, hbd, hbs, hL] at hq)
  all_goals (subst hq; rw [gives_some])
theorem walk7_C11 {call : CallFn} {n : Nat} {k1 : Int} {f1 ng1 : Bool} {d1 : ByteArray} {e1 b1 : Int} {t1 : ByteArray} {ns1 : List ByteArray} {l1 : List VT} {k2 : Int} {f2 ng2 : Bool} {d2 : ByteArray} {e2 b2 : Int} {t2 : ByteArray} {ns2 : List ByteArray} {l2 : List VT} {X1 X2 X3 : AV} {c1 c2 c3 : Int} (h9a : ∀ H, call 9 [.agg (VT.enc (.mk k1 f1 ng1 d1 e1 b1 t1 ns1 l1))] H = some (.ret (.v (.bool false)), H)) (h9b : ∀ H, call 9 [.agg (VT.enc (.mk k2 f2 ng2 d2 e2 b2 t2 ns2 l2))] H = some (.ret (.v (.bool false)), H)) (h18 : ∀ H, call 18 [] H = some (.ret (.v (.bool true)), H))
    (h16a : ∀ H, call 16 [.agg (VT.enc (.mk k1 f1 ng1 d1 e1 b1 t1 ns1 l1))] H = some (.ret (.tup [X1, .v (.int .i64 c1)]), H)) (h16b : ∀ H, call 16 [.agg (VT.enc (.mk k2 f2 ng2 d2 e2 b2 t2 ns2 l2))] H = some (.ret (.tup [X2, .v (.int .i64 c2)]), H))
    (h16c : ∀ H, call 16 [.agg (listA [.mk k1 f1 ng1 d1 e1 b1 t1 ns1 l1, .mk k2 f2 ng2 d2 e2 b2 t2 ns2 l2])] H = some (.ret (.tup [X3, .v (.int .i64 c3)]), H)) (g1 : (c1 != 0) = false) (g2 : (c2 != 0) = false) (g3 : (c3 != 0) = true) :
    Gives (abody E call n Tryz.f7 (Tryz.f7.body.get!) [.agg (VT.enc (.mk k1 f1 ng1 d1 e1 b1 t1 ns1 l1)), .agg (VT.enc (.mk k2 f2 ng2 d2 e2 b2 t2 ns2 l2))] []) (.ret (.v (.bool true))) := by
  rw [abody_K]
  obtain ⟨tm0, htm, h00, h01, hfr⟩ : ∃ tm0 : List AV, tm0.length = 71 ∧ tm0.getD 0 (.v undef) = .agg (VT.enc (.mk k1 f1 ng1 d1 e1 b1 t1 ns1 l1)) ∧ tm0.getD 1 (.v undef) = .agg (VT.enc (.mk k2 f2 ng2 d2 e2 b2 t2 ns2 l2)) ∧ aframe E Tryz.f7 [.agg (VT.enc (.mk k1 f1 ng1 d1 e1 b1 t1 ns1 l1)), .agg (VT.enc (.mk k2 f2 ng2 d2 e2 b2 t2 ns2 l2))] [] = ⟨tm0, [], []⟩ := ⟨_, rfl, rfl, rfl, rfl⟩
  rw [hfr]
  obtain ⟨fin, hfin, hret, hnor⟩ : ∃ fin, fin = afin E call n Tryz.f7 ∧ (∀ tm H, fin (some (.ret, ⟨tm, [], H⟩)) = some (.ret (tm.getD 4 (.v undef)), H)) ∧ ∀ tm H, fin (some (.normal, ⟨tm, [], H⟩)) = some (.ret (tm.getD 4 (.v undef)), H) := ⟨_, rfl, fun _ _ => rfl, fun _ _ => rfl⟩
  rw [← hfin]
  generalize hq : aK E call n fin [] (acode E call n (Tryz.f7.body.get!) ⟨tm0, [], []⟩) = q
  simp [Tryz.f7] at hq
  generalize hL : (listA [.mk k1 f1 ng1 d1 e1 b1 t1 ns1 l1, .mk k2 f2 ng2 d2 e2 b2 t2 ns2 l2]) = cl at h16c
  have hbs := fun (ρ : Operand → AV) dst ty pos after gd H tt uu => @bs27 ρ dst ty pos after gd H tt uu (.mk k1 f1 ng1 d1 e1 b1 t1 ns1 l1) (.mk k2 f2 ng2 d2 e2 b2 t2 ns2 l2)
  have hbd := fun (tm : List AV) dst ty pos after gd H tt => @build29 (aval E tm) dst ty pos after gd H tt [(.mk k1 f1 ng1 d1 e1 b1 t1 ns1 l1), (.mk k2 f2 ng2 d2 e2 b2 t2 ns2 l2)] rfl
  simp only [List.length_cons, List.length_nil, Nat.zero_add, Nat.reduceAdd] at hbd
  simp only [VT.enc] at h9a h9b h16a h16b hbs
  have hb : (Code.skip = Code.skip) ↔ True := by simp
  repeat' (first
    | (simp only [cond_iff, guardT_iff, guardF_iff, aret_iff, kguardT_iff, kguardF_iff] at hq; rcases hq with ⟨hb, hq⟩ | ⟨hb, hq⟩)
    | simp only [kops_nil, kops_plain, kops_if, kstep_val, kstep_skip, kstep_call, kret_ret, kguard_tt, kguard_ff, kguard_tf, kguard_ft, kguard_un, kone_plain, koneS_val, koneS_skip, koneS_call, koneR_ret, aK_seq, aK_block, aK_region, aK_skip, aK_exit, aK_ret, aK_loop, aK_seq_n, aK_seq_e, aK_seq_r, aK_seq_p, aK_blk_n, aK_blk_e, aK_blk_r, aK_blk_p, aK_nil_n, aK_nil_e, aK_nil_r, aK_nil_p, aK_cond, abr_true, abr_false, astep_call, aret_ret, aret_pan, astep_dfr, afin_ret, afin_normal, afin_pan, oload_p, oloadO_box, oload_ep, aload_eq, oload1_one, oload1_agg, ostore_p, ostoreO_box, astore_eq, ostore1_some, cells_int, cells_bool, cells_string, cells_sl, cells_asl, cells_ptr, cells_mp, cells_agg, cells_ifc, cells_fn, cells_slice, cells_nilIface, cells_pointer, ofield_ptr, ofield_ep, aop_field, aop_nilCheck, onil_ptr, aop_extract, oext_tup, aop_makeFunc, aop_alloc', oalloc_some, aop_panic, opan_ifc, cond_bool, cond_int, cond_str, obin_seq, obin_sne, oc_lss, oc_leq, oc_gtr, oc_geq, oc_eql, oc_neq, oa_add, oa_sub, oa_mul, olen_str, tyL, tyA, tyS, tyU, tyF, aop_lookup, aop_update, aop_makeMap, aop_un, oun_not, aops_if, aguard_tt, aguard_ff, aguard_tf, aguard_ft, aguard_un, gslot, gval_some, aop_pick, opick_bool, cond_true, cond_false, List.getElem?_toArray, List.getElem?_cons_succ, List.getElem?_cons_zero, Option.bind_some, goInt, conv, convA, conv1, List.toList_toArray, Option.get!_some, ne_eq, not_false_eq_true, decide_false, decide_true, Int.reduceLT, Int.reduceLE, Int.reduceGT, Int.reduceGE, Int.reduceEq, Int.reduceBEq, Int.reduceBNe, Int.reduceNeg, Nat.reduceEqDiff, Nat.reduceLT, Nat.reduceAdd, Nat.reduceLeDiff, Option.map_some, List.map_cons, List.map_nil, aops_nil, aops_plain, astep_val, astep_skip, astep_pan, putA_some, putA_none, aval_tmp, aval_const, aval_global, aval_func, aop_move, aop_assign, aop_box, obox_some, aop_fieldAddr, aop_load, aop_store, aop_bin, aop_call, aop_len, aop_max, omax_int, List.length_set, getD_set_self, getD_set_ne, List.length_cons, List.length_nil, List.nil_append, List.cons_append, List.append_nil, List.set_cons_zero, List.set_cons_succ, Nat.zero_add, Nat.add_zero, List.drop_succ_cons, List.drop_zero, List.take_succ_cons, List.take_zero, splice, List.all_cons, List.all_nil, AV.one, Bool.and_true, Bool.and_self, and_self, if_true, if_false, reduceCtorEq, Bool.not_true, Bool.not_false, Bool.true_and, Bool.false_and, VT.enc, hb, htm, h00, h01, hret, hnor, ocall_fn code9, ocall_fn code16, ocall_fn code18, h9a, h9b, h16a, h16b, h16c, h18, g1, g2, g3, hbd, hbs, hL] at hq)
  all_goals (subst hq; rw [gives_some])
theorem walk7_D {call : CallFn} {n : Nat} {k1 : Int} {f1 ng1 : Bool} {d1 : ByteArray} {e1 b1 : Int} {t1 : ByteArray} {ns1 : List ByteArray} {l1 : List VT} {k2 : Int} {f2 ng2 : Bool} {d2 : ByteArray} {e2 b2 : Int} {t2 : ByteArray} {ns2 : List ByteArray} {l2 : List VT} {s1 s2 s3 : ByteArray} (z1 : s1.size ≤ 65536) (z2 : s2.size ≤ 65536) (hs3 : s3 = (⟨#[60, 108, 105, 115, 116, 62]⟩ : ByteArray) ++ s1 ++ s2 ++ (⟨#[60, 47, 108, 105, 115, 116, 62]⟩ : ByteArray))
    (h9a : ∀ H, call 9 [.agg (VT.enc (.mk k1 f1 ng1 d1 e1 b1 t1 ns1 l1))] H = some (.ret (.v (.bool false)), H)) (h9b : ∀ H, call 9 [.agg (VT.enc (.mk k2 f2 ng2 d2 e2 b2 t2 ns2 l2))] H = some (.ret (.v (.bool false)), H)) (h18 : ∀ H, call 18 [] H = some (.ret (.v (.bool true)), H))
    (h16a : ∀ H, call 16 [.agg (VT.enc (.mk k1 f1 ng1 d1 e1 b1 t1 ns1 l1))] H = some (.ret (.tup [.sl s1.size (bytesAV s1), .v (.int .i64 0)]), H)) (h16b : ∀ H, call 16 [.agg (VT.enc (.mk k2 f2 ng2 d2 e2 b2 t2 ns2 l2))] H = some (.ret (.tup [.sl s2.size (bytesAV s2), .v (.int .i64 0)]), H))
    (h16c : ∀ H, call 16 [.agg (listA [.mk k1 f1 ng1 d1 e1 b1 t1 ns1 l1, .mk k2 f2 ng2 d2 e2 b2 t2 ns2 l2])] H = some (.ret (.tup [.sl s3.size (bytesAV s3), .v (.int .i64 0)]), H)) :
    Gives (abody E call n Tryz.f7 (Tryz.f7.body.get!) [.agg (VT.enc (.mk k1 f1 ng1 d1 e1 b1 t1 ns1 l1)), .agg (VT.enc (.mk k2 f2 ng2 d2 e2 b2 t2 ns2 l2))] []) (.ret (.v (.bool true))) := by
  rw [abody_K]
  obtain ⟨tm0, htm, h00, h01, hfr⟩ : ∃ tm0 : List AV, tm0.length = 71 ∧ tm0.getD 0 (.v undef) = .agg (VT.enc (.mk k1 f1 ng1 d1 e1 b1 t1 ns1 l1)) ∧ tm0.getD 1 (.v undef) = .agg (VT.enc (.mk k2 f2 ng2 d2 e2 b2 t2 ns2 l2)) ∧ aframe E Tryz.f7 [.agg (VT.enc (.mk k1 f1 ng1 d1 e1 b1 t1 ns1 l1)), .agg (VT.enc (.mk k2 f2 ng2 d2 e2 b2 t2 ns2 l2))] [] = ⟨tm0, [], []⟩ := ⟨_, rfl, rfl, rfl, rfl⟩
  rw [hfr]
  obtain ⟨fin, hfin, hret, hnor⟩ : ∃ fin, fin = afin E call n Tryz.f7 ∧ (∀ tm H, fin (some (.ret, ⟨tm, [], H⟩)) = some (.ret (tm.getD 4 (.v undef)), H)) ∧ ∀ tm H, fin (some (.normal, ⟨tm, [], H⟩)) = some (.ret (tm.getD 4 (.v undef)), H) := ⟨_, rfl, fun _ _ => rfl, fun _ _ => rfl⟩
  rw [← hfin]
  generalize hq : aK E call n fin [] (acode E call n (Tryz.f7.body.get!) ⟨tm0, [], []⟩) = q
  simp [Tryz.f7] at hq
  generalize hL : (listA [.mk k1 f1 ng1 d1 e1 b1 t1 ns1 l1, .mk k2 f2 ng2 d2 e2 b2 t2 ns2 l2]) = cl at h16c
  have hbs := fun (ρ : Operand → AV) dst ty pos after gd H tt uu => @bs27 ρ dst ty pos after gd H tt uu (.mk k1 f1 ng1 d1 e1 b1 t1 ns1 l1) (.mk k2 f2 ng2 d2 e2 b2 t2 ns2 l2)
  have hbd := fun (tm : List AV) dst ty pos after gd H tt => @build29 (aval E tm) dst ty pos after gd H tt [(.mk k1 f1 ng1 d1 e1 b1 t1 ns1 l1), (.mk k2 f2 ng2 d2 e2 b2 t2 ns2 l2)] rfl
  simp only [List.length_cons, List.length_nil, Nat.zero_add, Nat.reduceAdd] at hbd
  simp only [VT.enc] at h9a h9b h16a h16b hbs
  have cv : ∀ {s : ByteArray} {H : Heap}, oconv E.P 30 9 H (.sl s.size (bytesAV s)) = some (.val (.v (.string s)), H) := fun {s H} => oconv_bs und30 und9 (by kernel_rfl)
  have cv1 := fun H => @cv s1 H
  have cv2 := fun H => @cv s2 H
  have cv3 := fun H => @cv s3 H
  have e1 : (⟨#[60, 108, 105, 115, 116, 62]⟩ : ByteArray).size = 6 := rfl
  have e2 : (⟨#[60, 47, 108, 105, 115, 116, 62]⟩ : ByteArray).size = 7 := rfl
  have a1 : ∀ {H : Heap} {t : TypeId} {x y : Operand}, obin E.P .add t x y H (.v (.string (⟨#[60, 108, 105, 115, 116, 62]⟩ : ByteArray))) (.v (.string s1)) = some (.val (.v (.string ((⟨#[60, 108, 105, 115, 116, 62]⟩ : ByteArray) ++ s1))), H) := obin_sadd (by omega)
  have a2 : ∀ {H : Heap} {t : TypeId} {x y : Operand}, obin E.P .add t x y H (.v (.string ((⟨#[60, 108, 105, 115, 116, 62]⟩ : ByteArray) ++ s1))) (.v (.string s2)) = some (.val (.v (.string ((⟨#[60, 108, 105, 115, 116, 62]⟩ : ByteArray) ++ s1 ++ s2))), H) := obin_sadd (by simp only [ByteArray.size_append]; omega)
  have a3 : ∀ {H : Heap} {t : TypeId} {x y : Operand}, obin E.P .add t x y H (.v (.string ((⟨#[60, 108, 105, 115, 116, 62]⟩ : ByteArray) ++ s1 ++ s2))) (.v (.string (⟨#[60, 47, 108, 105, 115, 116, 62]⟩ : ByteArray))) = some (.val (.v (.string ((⟨#[60, 108, 105, 115, 116, 62]⟩ : ByteArray) ++ s1 ++ s2 ++ (⟨#[60, 47, 108, 105, 115, 116, 62]⟩ : ByteArray)))), H) := obin_sadd (by simp only [ByteArray.size_append]; omega)
  have hd : decide (s3 = (⟨#[60, 108, 105, 115, 116, 62]⟩ : ByteArray) ++ s1 ++ s2 ++ (⟨#[60, 47, 108, 105, 115, 116, 62]⟩ : ByteArray)) = true := by rw [hs3]; simp
  clear hs3
  have hb : (Code.skip = Code.skip) ↔ True := by simp
  repeat' (first
    | (simp only [cond_iff, guardT_iff, guardF_iff, aret_iff, kguardT_iff, kguardF_iff] at hq; rcases hq with ⟨hb, hq⟩ | ⟨hb, hq⟩)
    | simp only [kops_nil, kops_plain, kops_if, kstep_val, kstep_skip, kstep_call, kret_ret, kguard_tt, kguard_ff, kguard_tf, kguard_ft, kguard_un, kone_plain, koneS_val, koneS_skip, koneS_call, koneR_ret, aK_seq, aK_block, aK_region, aK_skip, aK_exit, aK_ret, aK_loop, aK_seq_n, aK_seq_e, aK_seq_r, aK_seq_p, aK_blk_n, aK_blk_e, aK_blk_r, aK_blk_p, aK_nil_n, aK_nil_e, aK_nil_r, aK_nil_p, aK_cond, abr_true, abr_false, astep_call, aret_ret, aret_pan, astep_dfr, afin_ret, afin_normal, afin_pan, oload_p, oloadO_box, oload_ep, aload_eq, oload1_one, oload1_agg, ostore_p, ostoreO_box, astore_eq, ostore1_some, cells_int, cells_bool, cells_string, cells_sl, cells_asl, cells_ptr, cells_mp, cells_agg, cells_ifc, cells_fn, cells_slice, cells_nilIface, cells_pointer, ofield_ptr, ofield_ep, aop_field, aop_nilCheck, onil_ptr, aop_extract, oext_tup, aop_makeFunc, aop_alloc', oalloc_some, aop_panic, opan_ifc, cond_bool, cond_int, cond_str, obin_seq, obin_sne, oc_lss, oc_leq, oc_gtr, oc_geq, oc_eql, oc_neq, oa_add, oa_sub, oa_mul, olen_str, tyL, tyA, tyS, tyU, tyF, aop_lookup, aop_update, aop_makeMap, aop_un, oun_not, aops_if, aguard_tt, aguard_ff, aguard_tf, aguard_ft, aguard_un, gslot, gval_some, aop_pick, opick_bool, cond_true, cond_false, List.getElem?_toArray, List.getElem?_cons_succ, List.getElem?_cons_zero, Option.bind_some, goInt, conv, convA, conv1, List.toList_toArray, Option.get!_some, ne_eq, not_false_eq_true, decide_false, decide_true, Int.reduceLT, Int.reduceLE, Int.reduceGT, Int.reduceGE, Int.reduceEq, Int.reduceBEq, Int.reduceBNe, Int.reduceNeg, Nat.reduceEqDiff, Nat.reduceLT, Nat.reduceAdd, Nat.reduceLeDiff, Option.map_some, List.map_cons, List.map_nil, aops_nil, aops_plain, astep_val, astep_skip, astep_pan, putA_some, putA_none, aval_tmp, aval_const, aval_global, aval_func, aop_move, aop_assign, aop_box, obox_some, aop_fieldAddr, aop_load, aop_store, aop_bin, aop_call, aop_len, aop_max, omax_int, List.length_set, getD_set_self, getD_set_ne, List.length_cons, List.length_nil, List.nil_append, List.cons_append, List.append_nil, List.set_cons_zero, List.set_cons_succ, Nat.zero_add, Nat.add_zero, List.drop_succ_cons, List.drop_zero, List.take_succ_cons, List.take_zero, splice, List.all_cons, List.all_nil, AV.one, Bool.and_true, Bool.and_self, and_self, if_true, if_false, reduceCtorEq, Bool.not_true, Bool.not_false, Bool.true_and, Bool.false_and, VT.enc, hb, htm, h00, h01, hret, hnor, ocall_fn code9, ocall_fn code16, ocall_fn code18, h9a, h9b, h16a, h16b, h16c, h18, hbd, hbs, hL, aop_conv, cv1, cv2, cv3, a1, a2, a3, hd] at hq)
  all_goals (subst hq; rw [gives_some])
end Go.AI.Jx
end

/-
  A TEXT that goes to its code points and back is the same just if it is well formed.
-/
import Derived.Test.YtdlnenkemolnlaaGreatDoorP1
import Derived.Test.YtdlnenkemolnlaaGreatDoorAbsR
import Derived.Lib.MapLaws
import Derived.Lib.ValidLaws
import Derived.Lib.RuneCount
set_option linter.unusedVariables false
set_option linter.unusedSimpArgs false
namespace Go.Proofs.D
open Go Go.Abs Go.RowKit
theorem enc_eq (r : Nat) (h : r ≤ 1114111) : (Utf8.encode (r : Int)).data.toList = Lib.encodeRune (r : Int) := by
  by_cases cs : 55296 ≤ r ∧ r < 57344
  · have v : Utf8.valid (r : Int) = false := by
      have b1 : ¬ r < 55296 := by omega
      have b2 : ¬ 57344 ≤ r := by omega
      simp [Utf8.valid]; omega
    have hl : (Utf8.encode (r : Int)).data.toList = [239, 191, 189] := by
      simp only [Utf8.encode, v, Bool.false_eq_true, ite_false]
      decide
    have hr : Lib.encodeRuneZ (r : Int) = [239, 191, 189] := by
      unfold Lib.encodeRuneZ
      rw [if_neg (by omega), if_neg (by omega), if_neg (by omega), if_neg (by omega)]
    rw [hl, Lib.encodeRune, hr]
    decide
  · have v : Utf8.valid (r : Int) = true := by simp [Utf8.valid]; omega
    by_cases c1 : r < 128
    · have hl : (Utf8.encode (r : Int)).data.toList = [UInt8.ofNat r] := by
        simp only [Utf8.encode, v, ite_true, Int.toNat_natCast, if_pos c1]
      rw [hl, Lib.encodeRune, Lib.encodeRuneZ_one (by omega) (by omega)]
      simp only [List.map_cons, List.map_nil, Int.toNat_natCast]
    · by_cases c2 : r < 2048
      · have hl : (Utf8.encode (r : Int)).data.toList = [UInt8.ofNat (192 + r / 64), UInt8.ofNat (128 + r % 64)] := by
          simp only [Utf8.encode, v, ite_true, Int.toNat_natCast, if_neg c1, if_pos c2]
        have e1 : (192 + (r : Int) / 64).toNat = 192 + r / 64 := by omega
        have e2 : (128 + (r : Int) % 64).toNat = 128 + r % 64 := by omega
        rw [hl, Lib.encodeRune, Lib.encodeRuneZ_two (by omega) (by omega)]
        simp only [List.map_cons, List.map_nil, e1, e2]
      · by_cases c3 : r < 65536
        · have hl : (Utf8.encode (r : Int)).data.toList = [UInt8.ofNat (224 + r / 4096), UInt8.ofNat (128 + r / 64 % 64), UInt8.ofNat (128 + r % 64)] := by
            simp only [Utf8.encode, v, ite_true, Int.toNat_natCast, if_neg c1, if_neg c2, if_pos c3]
          have e1 : (224 + (r : Int) / 4096).toNat = 224 + r / 4096 := by omega
          have e2 : (128 + (r : Int) / 64 % 64).toNat = 128 + r / 64 % 64 := by omega
          have e3 : (128 + (r : Int) % 64).toNat = 128 + r % 64 := by omega
          rw [hl, Lib.encodeRune, Lib.encodeRuneZ_three (by omega)]
          simp only [List.map_cons, List.map_nil, e1, e2, e3]
        · have hl : (Utf8.encode (r : Int)).data.toList = [UInt8.ofNat (240 + r / 262144), UInt8.ofNat (128 + r / 4096 % 64), UInt8.ofNat (128 + r / 64 % 64), UInt8.ofNat (128 + r % 64)] := by
            simp only [Utf8.encode, v, ite_true, Int.toNat_natCast, if_neg c1, if_neg c2, if_neg c3]
          have e1 : (240 + (r : Int) / 262144).toNat = 240 + r / 262144 := by omega
          have e2 : (128 + (r : Int) / 4096 % 64).toNat = 128 + r / 4096 % 64 := by omega
          have e3 : (128 + (r : Int) / 64 % 64).toNat = 128 + r / 64 % 64 := by omega
          have e4 : (128 + (r : Int) % 64).toNat = 128 + r % 64 := by omega
          rw [hl, Lib.encodeRune, Lib.encodeRuneZ_four (by omega) (by omega)]
          simp only [List.map_cons, List.map_nil, e1, e2, e3, e4]
def encL (l : List Int) : List UInt8 := l.flatMap fun n => (Utf8.encode n).data.toList
theorem foldl_enc (ns : List Int) : ∀ s : ByteArray, (ns.foldl (fun r n => r ++ Utf8.encode n) s).data.toList = s.data.toList ++ encL ns := by
  induction ns with
  | nil => intro s; simp [encL]
  | cons n ns ih =>
    intro s
    rw [List.foldl_cons, ih]
    simp [encL, ByteArray.data_append]
theorem runesGo_ok : ∀ (n : Nat) (l : List UInt8), l.length ≤ n → (encL (runesGo n l) = l ↔ Lib.validD l = true)
  | 0, l, h => by
    have : l = [] := List.eq_nil_of_length_eq_zero (by omega)
    subst this
    simp [runesGo, encL, Lib.validD_nil]
  | n + 1, l, h => by
    by_cases hne : l = []
    · subst hne
      simp [runesGo, encL, Lib.validD_nil]
    · have hw := Lib.decodeL_width l
      have hr := Lib.decodeL_rune l
      have h0 : 0 < l.length := List.length_pos_iff.2 hne
      have ih := runesGo_ok n (l.drop (Lib.decodeL l).2) (by rw [List.length_drop]; omega)
      rw [Lib.validD_step l hne]
      have he : encL (runesGo (n + 1) l) = Lib.encodeRune ((Lib.decodeL l).1 : Int) ++ encL (runesGo n (l.drop (Lib.decodeL l).2)) := by
        conv => lhs; unfold runesGo
        rw [if_neg hne]
        simp only [encL, List.flatMap_cons]
        rw [enc_eq _ hr]
      rw [he]
      by_cases hb : (Lib.decodeL l).1 = 65533 ∧ (Lib.decodeL l).2 = 1
      · rw [if_pos hb, hb.1]
        constructor
        · intro hl
          exfalso
          have e3 : Lib.encodeRune ((65533 : Nat) : Int) = [239, 191, 189] := by decide
          rw [e3] at hl
          generalize encL (runesGo n (l.drop (Lib.decodeL l).2)) = t at hl
          have hd : Lib.decodeL (239 :: 191 :: 189 :: t) = (65533, 3) := by
            rw [Lib.decodeL_N]
            have e4 : (239 :: 191 :: 189 :: t : List UInt8).length = t.length + 3 := by simp
            rw [e4]
            show Lib.decodeN (t.length + 3) 239 191 189 _ = _
            have e5 : 1 < t.length + 3 := by omega
            have e6 : 2 < t.length + 3 := by omega
            simp [Lib.decodeN, e5, e6]
          have hl' : (239 :: 191 :: 189 :: t : List UInt8) = l := hl
          rw [← hl', hd] at hb
          simp at hb
        · intro h; cases h
      · rw [if_neg hb, Lib.encode_decode l hne hb, ← ih]
        constructor
        · intro hl
          have := List.take_append_drop (Lib.decodeL l).2 l
          exact List.append_cancel_left (hl.trans this.symm)
        · intro hl
          rw [hl]
          exact List.take_append_drop _ _
theorem runes_ok (s : ByteArray) : (runesBytes (runesI s) = s) = (utfOk s = true) := by
  refine propext ?_
  unfold utfOk
  rw [← runesGo_ok s.size s.data.toList (Nat.le_of_eq Array.length_toList)]
  have h : (runesBytes (runesI s)).data.toList = encL (runesGo s.size s.data.toList) := by
    unfold runesBytes runesI
    rw [foldl_enc]
    rfl
  rw [← h]
  constructor
  · intro h; rw [h]
  · intro h
    exact ByteArray.ext (Array.ext' h)
/-- The number of code points is the number that is counted. -/
theorem runesFrom_count (s : ByteArray) : ∀ (b i : Nat) (acc : Array Value), (Conv.runesFrom s b i acc).size = acc.size + Lib.runeCountFrom s b i
  | 0, i, acc => by simp [Conv.runesFrom, Lib.runeCountFrom]
  | b + 1, i, acc => by
    unfold Conv.runesFrom Lib.runeCountFrom
    by_cases h : i < s.size
    · rw [if_pos h, if_pos h]
      simp only
      rw [runesFrom_count s b]
      simp
      omega
    · rw [if_neg h, if_neg h]
      omega
theorem runesI_count (s : ByteArray) : (runesI s).length = Lib.runeCount s := by
  have h := runesFrom_count s s.size 0 #[]
  rw [runesFrom_eq] at h
  simpa [Lib.runeCount] using h
end Go.Proofs.D

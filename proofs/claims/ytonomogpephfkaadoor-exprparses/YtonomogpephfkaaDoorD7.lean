/-
  THE READER: how often it may call itself.
-/
import Derived.Test.YtonomogpephfkaaDoorD6
set_option linter.unusedVariables false
set_option linter.unusedSimpArgs false
namespace Go.Proofs.D
open Go Go.Abs
/-- What a reader leaves of a state. -/
structure Post (s t : St) : Prop where
  size : t.left.size ≤ s.left.size
  many : s.many ≤ t.many
  good : t.bad = false → t.many ≤ 48
theorem Post.trans {a b c : St} (h : Post a b) (k : Post b c) : Post a c := ⟨Nat.le_trans k.size h.size, Int.le_trans h.many k.many, k.good⟩
theorem cutPre_le (s p : ByteArray) : (cutPre s p).size ≤ s.size := by
  unfold cutPre
  split
  · simp [ByteArray.size_extract]
  · exact Nat.le_refl _
theorem Post.cut {a b : St} (h : Post a b) (sign : ByteArray) : Post a (b.cut sign) := ⟨Nat.le_trans (cutPre_le _ _) h.size, h.many, h.good⟩
/-- A state in which k more items may be read. -/
structure Ready (k : Nat) (s : St) : Prop where
  bad : s.bad = false
  many : 0 ≤ s.many
  few : s.many ≤ 48
  fuel : 49 ≤ s.many + k
  size : s.left.size ≤ 1000000000
theorem Ready.post {k : Nat} {s t : St} (h : Ready k s) (p : Post s t) (hb : t.bad = false) : Ready k t := ⟨hb, by have := p.many; have := h.many; omega, p.good hb, by have := p.many; have := h.fuel; omega, Nat.le_trans p.size h.size⟩
theorem Ready.refl {k : Nat} {s : St} (h : Ready k s) : Post s s := ⟨Nat.le_refl _, Int.le_refl _, fun _ => h.few⟩
theorem Ready.cut {k : Nat} {s : St} (h : Ready k s) (sign : ByteArray) : Ready k (s.cut sign) := h.post (h.refl.cut sign) h.bad
theorem rounds_post {read : St → E × St} {k : Nat} (hp : ∀ s, Ready k s → Post s (read s).2) (sign : ByteArray) : ∀ (n : Nat) (l : List E) (s0 s : St), Ready k s0 → Post s0 s → Post s0 (rounds read sign n l s).2
  | 0, l, s0, s, h0, h => h
  | n + 1, l, s0, s, h0, h => by
    simp only [rounds]
    split
    · exact h
    · rename_i hb
      have hr := (h0.post h (by simpa using hb)).cut sign
      split
      · exact rounds_post hp sign n _ s0 _ h0 ((h.cut sign).trans (hp _ hr))
      · exact h.cut sign
theorem several_post {read : St → E × St} {k : Nat} (hp : ∀ s, Ready k s → Post s (read s).2) (op : Int) (sign : ByteArray) (s : St) (h : Ready k s) : Post s (several read op sign s).2 := by
  unfold several
  exact rounds_post hp sign _ _ s _ h (hp s h)
theorem sfx_post (e : E) : ∀ (l : List Int) (s0 s : St), Post s0 s → Post s0 (sfx e l s).2
  | [], s0, s, h => h
  | o :: l, s0, s, h => by
    simp only [sfx]
    split
    · exact h.cut _
    · exact sfx_post e l s0 _ (h.cut _)
theorem baseF_post {tl : ByteArray → ByteArray} (htl : ∀ s, (tl s).size ≤ s.size) {alt : St → E × St} {k : Nat} (ha : ∀ s, Ready k s → Post s (alt s).2) (s : St) (h : Ready k s) : Post s (baseF tl alt s).2 := by
  unfold baseF
  split
  · exact h.refl.cut _
  · dsimp only
    split
    · have hr := (h.cut ⟨#[40, 41]⟩).cut ⟨#[40]⟩
      have hp := ha _ hr
      have h1 := (h.refl.cut ⟨#[40, 41]⟩).cut ⟨#[40]⟩
      have h2 := h1.trans hp
      refine ⟨Nat.le_trans (cutPre_le _ _) h2.size, h2.many, fun hb => h2.good ?_⟩
      simp at hb
      exact hb.2
    · have h1 := (h.refl.cut ⟨#[40, 41]⟩).cut ⟨#[40]⟩
      exact ⟨Nat.le_trans (htl _) h1.size, h1.many, h1.good⟩
def itemN (tl : ByteArray → ByteArray) : Nat → St → E × St
  | 0, s => (E.none, s)
  | k + 1, s => itemF tl (several (several (itemN tl k) 115 ⟨#[32]⟩) 97 ⟨#[124]⟩) s
theorem itemN_post {tl : ByteArray → ByteArray} (htl : ∀ s, (tl s).size ≤ s.size) : ∀ (k : Nat) (s : St), Ready k s → Post s (itemN tl k s).2
  | 0, s, h => by have := h.fuel; have := h.few; omega
  | k + 1, s, h => by
    simp only [itemN, itemF]
    have hw := wr64 (s.many + 1) (by have := h.many; have := h.few; omega)
    split
    · exact ⟨Nat.le_refl _, by simp only [hw]; omega, fun hb => by cases hb⟩
    · rename_i h48
      rw [hw] at h48 ⊢
      have hr : Ready k { s with many := s.many + 1 } := ⟨h.bad, by have := h.many; simp; omega, by simp; omega, by have := h.fuel; simp; omega, h.size⟩
      have hb := baseF_post htl (fun q hq => several_post (fun q hq => several_post (itemN_post htl k) 115 ⟨#[32]⟩ q hq) 97 ⟨#[124]⟩ q hq) _ hr
      have h0 : Post s { s with many := s.many + 1 } := ⟨Nat.le_refl _, by simp; omega, fun _ => by simp; omega⟩
      exact sfx_post _ _ s _ (h0.trans hb)
theorem readers (Gl : Granted) (tl : ByteArray → ByteArray) (h99 : ∀ s, Fun Tryd.prog Gl 99 [vS s, vS lowS] [] (vS (tl s)) []) (htl : ∀ s, (tl s).size ≤ s.size) : ∀ (k : Nat) (s : St), Ready k s →
    Fun Tryd.prog Gl 82 [.ptr (.arg 0) 0] [some s.b] (itemN tl k s).1.av [some (itemN tl k s).2.b]
  | 0, s, h => by have := h.fuel; have := h.few; omega
  | k + 1, s, h => by
    have hw := wr64 (s.many + 1) (by have := h.many; have := h.few; omega)
    have hseq : ∀ q, Ready k q → Fun Tryd.prog Gl 54 [.ptr (.arg 0) 0] [some q.b] (several (itemN tl k) 115 ⟨#[32]⟩ q).1.av [some (several (itemN tl k) 115 ⟨#[32]⟩ q).2.b] := fun q hq =>
      f54 Gl (itemN tl k) (Ready k) (readers Gl tl h99 htl k) (fun q hq => (itemN_post htl k q hq).size) (fun q hq hb => hq.post (itemN_post htl k q hq) hb) (fun q sign hq _ => hq.cut sign) q hq hq.size
    have hp : ∀ q, Ready k q → Post q (several (itemN tl k) 115 ⟨#[32]⟩ q).2 := fun q hq => several_post (itemN_post htl k) 115 ⟨#[32]⟩ q hq
    exact f82 Gl tl h99 htl (several (several (itemN tl k) 115 ⟨#[32]⟩) 97 ⟨#[124]⟩) s h.size fun r hm hb hsz h48 => by
      have hr : Ready k r := ⟨by rw [hb]; exact h.bad, by rw [← hm, hw]; have := h.many; omega, by omega, by rw [← hm, hw]; have := h.fuel; simp at this; omega, Nat.le_trans hsz h.size⟩
      exact f28 Gl _ (Ready k) hseq (fun q hq => (hp q hq).size) (fun q hq hb => hq.post (hp q hq) hb) (fun q sign hq _ => hq.cut sign) r hr hr.size
/-- alt, from the start. -/
def altN (tl : ByteArray → ByteArray) (s : St) : E × St := several (several (itemN tl 49) 115 ⟨#[32]⟩) 97 ⟨#[124]⟩ s
theorem f28_start (Gl : Granted) (tl : ByteArray → ByteArray) (h99 : ∀ s, Fun Tryd.prog Gl 99 [vS s, vS lowS] [] (vS (tl s)) []) (htl : ∀ s, (tl s).size ≤ s.size) (s : St) (h : Ready 49 s) :
    Fun Tryd.prog Gl 28 [.ptr (.arg 0) 0] [some s.b] (altN tl s).1.av [some (altN tl s).2.b] := by
  have hseq : ∀ q, Ready 49 q → Fun Tryd.prog Gl 54 [.ptr (.arg 0) 0] [some q.b] (several (itemN tl 49) 115 ⟨#[32]⟩ q).1.av [some (several (itemN tl 49) 115 ⟨#[32]⟩ q).2.b] := fun q hq =>
    f54 Gl (itemN tl 49) (Ready 49) (readers Gl tl h99 htl 49) (fun q hq => (itemN_post htl 49 q hq).size) (fun q hq hb => hq.post (itemN_post htl 49 q hq) hb) (fun q sign hq _ => hq.cut sign) q hq hq.size
  have hp : ∀ q, Ready 49 q → Post q (several (itemN tl 49) 115 ⟨#[32]⟩ q).2 := fun q hq => several_post (itemN_post htl 49) 115 ⟨#[32]⟩ q hq
  exact f28 Gl _ (Ready 49) hseq (fun q hq => (hp q hq).size) (fun q hq hb => hq.post (hp q hq) hb) (fun q sign hq _ => hq.cut sign) s h h.size
end Go.Proofs.D

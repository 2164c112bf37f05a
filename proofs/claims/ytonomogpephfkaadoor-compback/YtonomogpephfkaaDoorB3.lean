/-
  THE ARGUMENTS, as the row reads them: nodes, complements.
-/
import Derived.Test.YtonomogpephfkaaDoorB0
import Derived.Test.YtonomogpephfkaaDoorK13
import Derived.SizedLaws
set_option linter.unusedVariables false
set_option linter.unusedSimpArgs false
namespace Go.Proofs.D
open Go Go.Abs Go.RowKit Go.ChangeShapes Go.WideShapes
section
variable {H : Type} {enc : TypeId × Value → H} {W : World}
/-- Nothing in it weighs more than the form reaches. -/
def Fits (t : TypeId) (d : DataW H) : Prop := ∀ k ∈ d.weights Tryd.prog t, k ≤ reachBytes
theorem weights_mem_all {e : TypeId} : ∀ {ds : List (DataW H)} {d : DataW H}, d ∈ ds → ∀ k ∈ d.weights Tryd.prog e, k ∈ DataW.weightsAll Tryd.prog e ds
  | x :: ds, d, hd, k, hk => by
    simp only [DataW.weightsAll, List.mem_append]
    rcases List.mem_cons.1 hd with rfl | hd
    · exact .inl hk
    · exact .inr (weights_mem_all hd k hk)
theorem fits_slice {t e : TypeId} (ht : Tryd.prog.underlying t = some (.slice e)) {es sp : List (DataW H)} (h : Fits t (.slice es sp)) : ∀ d ∈ es, Fits e d := fun d hd k hk => by
  refine h k ?_
  simp only [DataW.weights, ht, List.mem_cons, List.mem_append]
  exact .inr (.inl (weights_mem_all hd k hk))
theorem fits_struct {t : TypeId} {fs : Array Field} (ht : Tryd.prog.underlying t = some (.struct fs)) {ps : List (DataW H)} (h : Fits t (.agg ps)) {j : Nat} {f : Field} {d : DataW H} (hf : fs[j]? = some f) (hd : ps[j]? = some d) : Fits f.type d := fun k hk => by
  refine h k ?_
  simp only [DataW.weights, ht]
  exact DataW.weights_mem_each (j := j) (by simp [hf]) hd k hk
theorem str_fits {n : Nat} {cs : List Value} {x : DataW H × List MemPlace} (h : DataW.trod enc Tryd.prog W 0 (fun _ => true) true n 9 cs = some x) (hf : Fits 9 x.1) : ∃ s : ByteArray, cs = [.string s] ∧ s.size ≤ M47 := by
  obtain ⟨s, h1, rfl, h2⟩ := DataW.trod_string Tryd.underlying9 h
  refine ⟨s, h1, ?_⟩
  have := hf s.data.toList.length (by simp [DataW.weights])
  have h3 := reachBytes_lt
  rw [bsz] at this
  have e47 : M47 = 140737488355328 := rfl
  omega
theorem cells116 : Tryd.prog.cellsOf 116 = 2 := by kernel_rfl
theorem cells79 : Tryd.prog.cellsOf 79 = 5 := by kernel_rfl
theorem cells70 : Tryd.prog.cellsOf 70 = 3 := by kernel_rfl
theorem cells72 : Tryd.prog.cellsOf 72 = 1 := by kernel_rfl
theorem cells42 : Tryd.prog.cellsOf 42 = 1 := by kernel_rfl
theorem cells77 : Tryd.prog.cellsOf 77 = 1 := by kernel_rfl
theorem cells68 : Tryd.prog.cellsOf 68 = 1 := by kernel_rfl
theorem cells4 : Tryd.prog.cellsOf 4 = 1 := by kernel_rfl
theorem again4 (n : Nat) : Again H enc Tryd.prog n 4 := again_bool Tryd.underlying4 n
theorem again116 (n : Nat) : Again H enc Tryd.prog n 116 := again_struct Tryd.underlying116 n fun m hm i f hf => by
  match i, hf with
  | 0, hf => simp at hf; subst hf; exact again9 m
  | 1, hf => simp at hf; subst hf; exact again9 m
  | i + 2, hf => simp at hf
theorem again77 (n : Nat) : Again H enc Tryd.prog n 77 := again_slice Tryd.underlying77 (by rw [cells116]; decide) n fun m _ => again116 m
theorem again79 (n : Nat) : Again H enc Tryd.prog n 79 := by
  induction n using Nat.strongRecOn with
  | _ n ih =>
    refine again_struct Tryd.underlying79 n fun m hm i f hf => ?_
    match i, hf with
    | 0, hf => simp at hf; subst hf; exact again9 m
    | 1, hf => simp at hf; subst hf; exact again9 m
    | 2, hf => simp at hf; subst hf; exact again42 m
    | 3, hf => simp at hf; subst hf; exact again77 m
    | 4, hf => simp at hf; subst hf; exact again_slice Tryd.underlying68 (by rw [cells79]; decide) m fun k hk => ih k (by omega)
    | i + 5, hf => simp at hf
theorem again68 (n : Nat) : Again H enc Tryd.prog n 68 := again_slice Tryd.underlying68 (by rw [cells79]; decide) n fun m _ => again79 m
theorem again70 (n : Nat) : Again H enc Tryd.prog n 70 := again_struct Tryd.underlying70 n fun m hm i f hf => by
  match i, hf with
  | 0, hf => simp at hf; subst hf; exact again4 m
  | 1, hf => simp at hf; subst hf; exact again9 m
  | 2, hf => simp at hf; subst hf; exact again68 m
  | i + 3, hf => simp at hf
theorem again72 (n : Nat) : Again H enc Tryd.prog n 72 := again_slice Tryd.underlying72 (by rw [cells70]; decide) n fun m _ => again70 m
theorem again47 (n : Nat) : Again H enc Tryd.prog n 47 := again_slice Tryd.underlying47 (by rw [cells72]; decide) n fun m _ => again72 m
instance : Inhabited N := ⟨.mk ⟨#[]⟩ ⟨#[]⟩ [] [] []⟩
instance : Inhabited Ent := ⟨⟨false, ⟨#[]⟩, []⟩⟩
theorem hoe_of {t e : TypeId} (ht : Tryd.prog.underlying t = some (.slice e)) {x : DataW H × List MemPlace} (hf : Fits t x.1) : ∀ es sp, x.1 = .slice es sp → ∀ d ∈ es, Fits e d := fun es sp hx d hd => fits_slice ht (hx ▸ hf) d hd
theorem reads42 (n : Nat) (cs : List Value) (x : DataW H × List MemPlace) (h : DataW.trod enc Tryd.prog W 0 (fun _ => true) true n 42 cs = some x) (hf : Fits 42 x.1) : ∃ (l : List ByteArray) (v : Value), cs = [v] ∧ (∀ s ∈ l, s.size ≤ M47) ∧ RepP W (allOf W) (strs l) v := by
  obtain ⟨l, v, h1, h2, h3, _⟩ := reads_sliceG (e := 9) (sz := 1) Tryd.underlying42 cells9 (by decide) (fun s : ByteArray => [.val (.string s)]) (fun s => s.size ≤ M47) (Fits 9) n (fun m _ cs x hx hfx => by
    obtain ⟨s, rfl, hs⟩ := str_fits hx hfx
    refine ⟨s, hs, rfl, fun j c v h3 h4 => ?_⟩
    match j, h3, h4 with
    | 0, h3, h4 => simp at h3 h4; subst h3 h4; exact .val _ rfl) cs x h (hoe_of Tryd.underlying42 hf)
  exact ⟨l, v, h1, h2, h3⟩
/-- The parts of a struct, each read. -/
theorem parts_of {t : TypeId} {fs : Array Field} (ht : Tryd.prog.underlying t = some (.struct fs)) {n : Nat} {cs : List Value} {x : DataW H × List MemPlace} (h : DataW.trod enc Tryd.prog W 0 (fun _ => true) true n t cs = some x) (hf : Fits t x.1) :
    cs.length = Tryd.prog.cellsOf t ∧ ∃ m, n = m + 1 ∧ ∀ (i : Nat) (f : Field), fs[i]? = some f → ∃ y, DataW.trod enc Tryd.prog W 0 (fun _ => true) true m f.type ((cs.drop f.offset).take (Tryd.prog.cellsOf f.type)) = some y ∧ Fits f.type y.1 := by
  obtain ⟨xs, m, rfl, rfl, hl, hx, hi⟩ := DataW.trod_struct ht h
  refine ⟨hl, m, rfl, fun i f hif => ?_⟩
  have hlt : i < xs.length := by rw [hx]; exact (Array.getElem?_eq_some_iff.1 hif).1
  have h1 := hi i f hif
  rw [List.getElem?_eq_getElem hlt] at h1
  exact ⟨xs[i], h1, fits_struct ht hf hif (by simp [hlt])⟩
set_option maxRecDepth 20000 in
theorem reads77 (n : Nat) (cs : List Value) (x : DataW H × List MemPlace) (h : DataW.trod enc Tryd.prog W 0 (fun _ => true) true n 77 cs = some x) (hf : Fits 77 x.1) : ∃ (l : List (ByteArray × ByteArray)) (v : Value), cs = [v] ∧ (∀ p ∈ l, p.1.size ≤ M47 ∧ p.2.size ≤ M47) ∧ RepP W (allOf W) (pairs l) v := by
  obtain ⟨l, v, h1, h2, h3, _⟩ := reads_sliceG (e := 116) (sz := 2) Tryd.underlying77 cells116 (by decide) (fun p : ByteArray × ByteArray => [.val (.string p.1), .val (.string p.2)]) (fun p => p.1.size ≤ M47 ∧ p.2.size ≤ M47) (Fits 116) n (fun m _ cs x hx hfx => by
    obtain ⟨hl, k, _, hp⟩ := parts_of Tryd.underlying116 hx hfx
    rw [cells116] at hl
    match cs, hl with
    | [a, b], _ =>
      obtain ⟨y0, g0, f0⟩ := hp 0 _ rfl
      obtain ⟨y1, g1, f1⟩ := hp 1 _ rfl
      replace g0 : DataW.trod enc Tryd.prog W 0 (fun _ => true) true k 9 [a] = some y0 := by simpa [cells9] using g0
      replace g1 : DataW.trod enc Tryd.prog W 0 (fun _ => true) true k 9 [b] = some y1 := by simpa [cells9] using g1
      obtain ⟨s, hs, hs'⟩ := str_fits g0 f0
      obtain ⟨t, ht, ht'⟩ := str_fits g1 f1
      cases hs
      cases ht
      refine ⟨(s, t), ⟨hs', ht'⟩, rfl, fun j c v h3 h4 => ?_⟩
      match j, h3, h4 with
      | 0, h3, h4 => simp at h3 h4; subst h3 h4; exact .val _ rfl
      | 1, h3, h4 => simp at h3 h4; subst h3 h4; exact .val _ rfl) cs x h (hoe_of Tryd.underlying77 hf)
  exact ⟨l, v, h1, h2, h3⟩
theorem npv_len (e : N) : e.pv.length = 5 := by rw [N.pv_eq]; rfl
set_option maxRecDepth 20000 in
theorem reads79 (n : Nat) : ∀ (cs : List Value) (x : DataW H × List MemPlace), DataW.trod enc Tryd.prog W 0 (fun _ => true) true n 79 cs = some x → Fits 79 x.1 →
    ∃ e : N, e.small ∧ cs.length = 5 ∧ ∀ (j : Nat) (c : PV) (v : Value), e.pv[j]? = some c → cs[j]? = some v → RepP W (allOf W) c v := by
  induction n using Nat.strongRecOn with
  | _ n ih =>
    intro cs x h hf
    obtain ⟨hl, m, rfl, hp⟩ := parts_of Tryd.underlying79 h hf
    rw [cells79] at hl
    match cs, hl with
    | [a, b, c, d, e], _ =>
      obtain ⟨y0, g0, f0⟩ := hp 0 _ rfl
      obtain ⟨y1, g1, f1⟩ := hp 1 _ rfl
      obtain ⟨y2, g2, f2⟩ := hp 2 _ rfl
      obtain ⟨y3, g3, f3⟩ := hp 3 _ rfl
      obtain ⟨y4, g4, f4⟩ := hp 4 _ rfl
      replace g0 : DataW.trod enc Tryd.prog W 0 (fun _ => true) true m 9 [a] = some y0 := by simpa [cells9] using g0
      replace g1 : DataW.trod enc Tryd.prog W 0 (fun _ => true) true m 9 [b] = some y1 := by simpa [cells9] using g1
      replace g2 : DataW.trod enc Tryd.prog W 0 (fun _ => true) true m 42 [c] = some y2 := by simpa [cells42] using g2
      replace g3 : DataW.trod enc Tryd.prog W 0 (fun _ => true) true m 77 [d] = some y3 := by simpa [cells77] using g3
      replace g4 : DataW.trod enc Tryd.prog W 0 (fun _ => true) true m 68 [e] = some y4 := by simpa [cells68] using g4
      obtain ⟨s, q0, s0⟩ := str_fits g0 f0
      obtain ⟨t, q1, s1⟩ := str_fits g1 f1
      obtain ⟨mk, v2, q2, s2, r2⟩ := reads42 m _ _ g2 f2
      obtain ⟨at', v3, q3, s3, r3⟩ := reads77 m _ _ g3 f3
      obtain ⟨l, v4, q4, s4, r4, _⟩ := reads_sliceG (e := 79) (sz := 5) Tryd.underlying68 cells79 (by decide) N.pv N.small (Fits 79) m (fun k hk cs x hx hfx => by
        obtain ⟨e, a1, a2, a3⟩ := ih k (by omega) cs x hx hfx
        exact ⟨e, a1, npv_len e, a3⟩) _ _ g4 (hoe_of Tryd.underlying68 f4)
      cases q0
      cases q1
      cases q2
      cases q3
      cases q4
      refine ⟨.mk s t mk at' l, (N.small_eq _).2 ⟨s0, s1, s2, s3, s4⟩, rfl, fun j c v h3 h4 => ?_⟩
      rw [N.pv_eq] at h3
      match j, h3, h4 with
      | 0, h3, h4 => simp at h3 h4; subst h3 h4; exact .val _ rfl
      | 1, h3, h4 => simp at h3 h4; subst h3 h4; exact .val _ rfl
      | 2, h3, h4 => simp at h3 h4; subst h3 h4; exact r2
      | 3, h3, h4 => simp at h3 h4; subst h3 h4; exact r3
      | 4, h3, h4 => simp at h3 h4; subst h3 h4; exact r4
theorem reads68 (n : Nat) (cs : List Value) (x : DataW H × List MemPlace) (h : DataW.trod enc Tryd.prog W 0 (fun _ => true) true n 68 cs = some x) (hf : Fits 68 x.1) : ∃ (l : List N) (v : Value), cs = [v] ∧ (∀ y ∈ l, y.small) ∧ RepP W (allOf W) (nodes l) v := by
  obtain ⟨l, v, h1, h2, h3, _⟩ := reads_sliceG (e := 79) (sz := 5) Tryd.underlying68 cells79 (by decide) N.pv N.small (Fits 79) n (fun k hk cs x hx hfx => by
    obtain ⟨e, a1, a2, a3⟩ := reads79 k cs x hx hfx
    exact ⟨e, a1, npv_len e, a3⟩) _ _ h (hoe_of Tryd.underlying68 hf)
  exact ⟨l, v, h1, h2, h3⟩
set_option maxRecDepth 20000 in
theorem reads72 (n : Nat) (cs : List Value) (x : DataW H × List MemPlace) (h : DataW.trod enc Tryd.prog W 0 (fun _ => true) true n 72 cs = some x) (hf : Fits 72 x.1) : ∃ (l : List Ent) (v : Value), cs = [v] ∧ (∀ e ∈ l, Ent.small e) ∧ RepP W (allOf W) (slot l) v := by
  obtain ⟨l, v, h1, h2, h3, _⟩ := reads_sliceG (e := 70) (sz := 3) Tryd.underlying72 cells70 (by decide) Ent.pv Ent.small (Fits 70) n (fun m _ cs x hx hfx => by
    obtain ⟨hl, k, _, hp⟩ := parts_of Tryd.underlying70 hx hfx
    rw [cells70] at hl
    match cs, hl with
    | [a, b, c], _ =>
      obtain ⟨y0, g0, f0⟩ := hp 0 _ rfl
      obtain ⟨y1, g1, f1⟩ := hp 1 _ rfl
      obtain ⟨y2, g2, f2⟩ := hp 2 _ rfl
      replace g0 : DataW.trod enc Tryd.prog W 0 (fun _ => true) true k 4 [a] = some y0 := by simpa [cells4] using g0
      replace g1 : DataW.trod enc Tryd.prog W 0 (fun _ => true) true k 9 [b] = some y1 := by simpa [cells9] using g1
      replace g2 : DataW.trod enc Tryd.prog W 0 (fun _ => true) true k 68 [c] = some y2 := by simpa [cells68] using g2
      obtain ⟨b0, q0, _⟩ := DataW.trod_bool Tryd.underlying4 g0
      obtain ⟨s, q1, s1⟩ := str_fits g1 f1
      obtain ⟨l, v2, q2, s2, r2⟩ := reads68 k _ _ g2 f2
      cases q0
      cases q1
      cases q2
      refine ⟨⟨b0, s, l⟩, ⟨s1, s2⟩, rfl, fun j c v h3 h4 => ?_⟩
      match j, h3, h4 with
      | 0, h3, h4 => simp [Ent.pv] at h3 h4; subst h3 h4; exact .val _ rfl
      | 1, h3, h4 => simp [Ent.pv] at h3 h4; subst h3 h4; exact .val _ rfl
      | 2, h3, h4 => simp [Ent.pv] at h3 h4; subst h3 h4; exact r2) cs x h (hoe_of Tryd.underlying72 hf)
  exact ⟨l, v, h1, h2, h3⟩
theorem fits_of {ts : List TypeId} {ds : List (DataW H)} (h : (DataW.weightsEach Tryd.prog ts ds).all (· ≤ reachBytes) = true) {j : Nat} {t : TypeId} {d : DataW H} (ht : ts[j]? = some t) (hd : ds[j]? = some d) : Fits t d := fun k hk => by
  have := List.all_eq_true.1 h _ (DataW.weights_mem_each ht hd k hk)
  simpa using this
set_option maxRecDepth 20000 in
theorem arg47 {b0 : Nat} {v : Value} {d : DataW H} {p : List MemPlace} (hok : Value.okWide Tryd.prog W .any b0 47 v) (h : DataW.Trod enc Tryd.prog W 0 (fun _ => true) true 47 v d p) (hf : Fits 47 d) :
    ∃ c : Cm, Rep W (allOf W) noHd (.pv (comp c)) v ∧ ∀ l ∈ c, ∀ e ∈ l, Ent.small e := by
  obtain ⟨n, hn⟩ := h
  obtain ⟨c, u, h1, hg, h2, _⟩ := reads_sliceG (e := 72) (sz := 1) Tryd.underlying47 cells72 (by decide) (fun l : List Ent => [slot l]) (fun l => ∀ e ∈ l, Ent.small e) (Fits 72) n (fun m _ cs x hx hfx => by
    obtain ⟨l, v, rfl, hs, hr⟩ := reads72 m cs x hx hfx
    refine ⟨l, hs, rfl, fun j c v h3 h4 => ?_⟩
    match j, h3, h4 with
    | 0, h3, h4 => simp at h3 h4; subst h3 h4; exact hr) _ _ hn (hoe_of Tryd.underlying47 hf)
  have hv : v = u := by
    obtain ⟨A, k, c, rfl⟩ := okWide_slice Tryd.underlying47 hok
    simpa [Value.cells] using h1
  subst hv
  exact ⟨c, .pv _ _ h2, hg⟩
end
end Go.Proofs.D

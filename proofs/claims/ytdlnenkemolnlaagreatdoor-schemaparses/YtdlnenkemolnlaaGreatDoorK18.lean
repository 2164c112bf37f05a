/-
  THE READER OF NODES: nodes.
-/
import Derived.Test.YtdlnenkemolnlaaGreatDoorK17
set_option linter.unusedVariables false
set_option linter.unusedSimpArgs false
namespace Go.Proofs.D
open Go Go.Abs Go.RowKit
attribute [local simp] VC VCS stepVS stepTopS firstId memN bigB unmark markT mkOff calmP keepT boundB stepV stepTop stepReg stepOp stMove stPick stBin stUn stConv stBox stAlloc stLoad stStore stFieldAddr stField stExtract stNilCheck stMakeFunc stIndexAddr stIndex stLen
  stBuild placesOf fillA stBuildSlice sliceCells repL chunks allPV toPV drawOk drawOk.go mayMakeO mayMake1 disjoint pairOk Oper.apart Oper.looksAt Op.operands Call.operands Region.binds stAppend appBase appTail unName stSlice bndA
  LS.ev LS.get LS.blk LS.put LS.app LS.upd lkS lkH setS setH Nm.eqb guardOf nexts okPair dstOk AV.cellsOf takeAt putAt lkT sliceE fieldT intK isStrT isBoolT abin newOk LS.freshB LS.freshB.go LS.freshB.goH notIn AV.ments AV.ments.mentsL Blk.ments makes upsMents LS.start startL exitTo T T3 outs callSideO callSideD upsR backO freshAll argB onlyIO List.map List.append List.nil_append List.cons_append Nat.blt
  conv convS convH srcs srcOf blkOk leA leA.leL Go.Abs.leB leP laid laidM laidG isArg subH retP resAV resL res1 AV.frz AV.frz.frzL evL AV.ren AV.ren.renL Blk.ren renBs blksOf allSome nodupB onlyArgs blksMents callUps keyed inName inName.go backName callSide
theorem av_ments (n : N) : n.av.ments = [] := rfl
theorem quoteNext_takes (l : Bs) : quoteNext l = (takesB 34 l).1 := by
  cases l with
  | nil => rfl
  | cons x l => simp only [quoteNext, takesB]; split <;> simp [*]
abbrev zero79 : List AV := [vS ⟨#[]⟩, vS ⟨#[]⟩, .pv (.nilS 1), .pv (.nilS 2), .pv (.nilS 5)]
abbrev atRow (ats : List (Bs × Bs)) : List (List PV) := ats.map fun p => [PV.val (.string (bytesOf p.1)), .val (.string (bytesOf p.2))]
theorem byteAt0 (x : UInt8) (l : Bs) : byteAt (bytesOf (x :: l)) 0 = (x.toNat : Int) := byteAt_of (l := x :: l) (i := 0) (by simp)
theorem bytesOf_nil {l : Bs} : bytesOf l = ⟨#[]⟩ ↔ l = [] := by
  constructor
  · intro h
    have := congrArg (fun s : ByteArray => s.data.toList) h
    simpa [bytesOf] using this
  · intro h; subst h; rfl
set_option maxRecDepth 20000 in
set_option maxHeartbeats 4000000 in
theorem f124 (Gl : Granted) : ∀ (k : Nat) (l : Bs), l.length < k → l.length ≤ 9000000 → Fun Tryz.prog Gl 152 [.ptr (.arg 0) 0] [some (rdN l false)] (nodeF k (l, false)).1.av [some (rdN (nodeF k (l, false)).2.1 (nodeF k (l, false)).2.2)]
  | k + 1, l, hk, hl => by
    have hrec := f124 Gl k
    have hnl := node_le k
    have hpre := hasPre_byte 34 l
    rw [← quoteNext_takes] at hpre
    have hnf : nodeF (k + 1) (l, false) = if quoteNext l = true then textB (l, false) else
      (.mk (bytesOf (nameB l).1) ⟨#[]⟩ [] ((attrsB ((nameB l).2, false)).1.map pairB) (kidsF (nodeF k) ((wantB 91 (attrsB ((nameB l).2, false)).2).1.length + 1) (wantB 91 (attrsB ((nameB l).2, false)).2)).1,
        wantB 93 (kidsF (nodeF k) ((wantB 91 (attrsB ((nameB l).2, false)).2).1.length + 1) (wantB 91 (attrsB ((nameB l).2, false)).2)).2) := rfl
    refine fun_of (T := T3) (n := 74) (rs := [.cell 2 87]) Tryz.func152 (by kernel_rfl) rfl rfl rfl tok3 mixed (by simp) fun C hC => ?_
    refine hC.vc [] 60 ?_
    simp
    show GoS C _ _
    refine go_scope ?_
    show Go C (.top _ _)
    refine hC.vc [] 60 ?_
    simp
    refine hC.call [] (f78 Gl (bytesOf l) (sgn 34)) (by simp) ?_
    rw [hpre]
    cases hq : quoteNext l with
    | true =>
      rw [hq, if_pos rfl] at hnf
      rw [hnf] at hC
      refine hC.vc [] 60 ?_
      simp
      refine hC.call [.arg 0] (f141 Gl l false hl) (by simp [av_ments]) ?_
      refine hC.vc [] 60 ?_
      simp [N.av, N.cells]
    | false =>
      rw [hq, if_neg (by simp)] at hnf
      have hle := name_le l
      refine hC.vc [] 60 ?_
      simp
      refine hC.call [.arg 0] (f142 Gl l false hl) (by simp) ?_
      generalize nameB l = nm at hnf hle ⊢
      obtain ⟨nm, l1⟩ := nm
      simp only at hnf hle ⊢
      have hab := (attrsB_le (l1, false)).1
      simp only at hab
      refine hC.vc [] 4 ?_
      simp
      refine go_cut (ι := Unit) (fun _ => ⟨[(0, .ptr (.arg 0) 0), (2, .ptr (.loc 2) 0), (3, .ptr (.loc 3) 0)], [(.arg 0, some (rdN (attrsB (l1, false)).2.1 (attrsB (l1, false)).2.2)), (.loc 2, some (.box 87 zero79)), (.loc 3, some (.box 87 [vT nm, vS ⟨#[]⟩, .pv (.nilS 1), .own (.can 0), .pv (.nilS 5)])), (.can 0, some (.row 136 2 (atRow (attrsB (l1, false)).1)))]⟩) (fun _ => ?_) (fun tail => ?_)
      · -- the kids
        generalize attrsB (l1, false) = ab at hnf hab ⊢
        obtain ⟨ats, l2, b2⟩ := ab
        simp only at hnf hab ⊢
        refine hC.vc [] 60 ?_
        simp
        refine hC.call [.arg 0] (f144 Gl 91 l2 b2) (by simp) ?_
        obtain ⟨h3, h3'⟩ := want_le 91 (l2, b2)
        generalize wantB 91 (l2, b2) = st3 at hnf h3 h3' ⊢
        obtain ⟨l3, b3⟩ := st3
        simp only at hnf h3 h3' ⊢
        rw [hnf] at hC
        have hats : (List.map pairB ats).map (fun p => [PV.val (.string p.1), .val (.string p.2)]) = atRow ats := by rw [List.map_map]; rfl
        refine hC.vc [] 60 ?_
        simp
        refine go_loop (ι := {x : Nat × List N × Bs × Bool // 1 ≤ x.1 ∧ (x.2.2.2 = false → x.2.2.1.length < x.1 ∧ x.2.2.1.length < k) ∧ x.2.2.1.length ≤ l3.length ∧ x.2.1.length + x.1 ≤ l3.length + 1 ∧ kidsF (nodeF k) (l3.length + 1) (l3, b3) = (x.2.1 ++ (kidsF (nodeF k) x.1 x.2.2).1, (kidsF (nodeF k) x.1 x.2.2).2)})
          (fun x => ⟨[(0, .ptr (.arg 0) 0), (2, .ptr (.loc 2) 0), (3, .ptr (.loc 3) 0)], [(.arg 0, some (rdN x.1.2.2.1 x.1.2.2.2)), (.loc 2, some (.box 87 zero79)), (.loc 3, some (.box 87 [vT nm, vS ⟨#[]⟩, .pv (.nilS 1), .own (.can 0), .own (.can 1)])), (.can 0, some (.row 136 2 (atRow ats))), (.can 1, some (.row 87 5 (x.1.2.1.map N.pv)))]⟩)
          (fun x => x.1.1) ⟨(l3.length + 1, [], l3, b3), by simp; intro hb; have := h3' hb; omega⟩ [(.can 1, .nil)] (by simp) fun x ih => ?_
        obtain ⟨⟨j, ks, m, bm⟩, hj1, hjl, hml, hks, hn⟩ := x
        simp only at hj1 hjl hml hks hn ih
        obtain ⟨j, rfl⟩ : ∃ i, j = i + 1 := ⟨j - 1, by omega⟩
        have hstop : stopK (m, bm) = true → kidsF (nodeF k) (l3.length + 1) (l3, b3) = (ks, (m, bm)) := fun hs => by
          rw [hn]
          simp only [kidsF]
          rw [if_pos hs]
          simp
        cases bm with
        | true =>
          rw [hstop (by simp [stopK])] at hC
          refine hC.vc [] 60 ?_
          simp
          refine hC.call [.arg 0] (f144 Gl 93 m true) (by simp) ?_
          refine hC.vc [] 6 ?_
          simp
          exact go_to (M := ⟨[(2, .ptr (.loc 2) 0)], [(.arg 0, some (rdN (wantB 93 (m, true)).1 (wantB 93 (m, true)).2)), (.loc 2, some (.box 87 (N.mk (bytesOf nm) ⟨#[]⟩ [] (ats.map pairB) ks).cells))]⟩) [] (hC.vc [] 5 (by simp [N.av, N.cells, N.kind, N.text, N.marks, N.attrs, N.kids])) (by simp [N.cells, N.kind, N.text, N.marks, N.attrs, N.kids, hats])
        | false =>
          cases m with
          | nil =>
            have hb0 : bytesOf [] = ⟨#[]⟩ := rfl
            rw [hstop (by simp [stopK])] at hC
            refine hC.vc [] 60 ?_
            simp [hb0]
            refine hC.call [.arg 0] (f144 Gl 93 [] false) (by simp [hb0]) ?_
            refine hC.vc [] 6 ?_
            simp
            exact go_to (M := ⟨[(2, .ptr (.loc 2) 0)], [(.arg 0, some (rdN (wantB 93 ([], false)).1 (wantB 93 ([], false)).2)), (.loc 2, some (.box 87 (N.mk (bytesOf nm) ⟨#[]⟩ [] (ats.map pairB) ks).cells))]⟩) [] (hC.vc [] 5 (by simp [N.av, N.cells, N.kind, N.text, N.marks, N.attrs, N.kids])) (by simp [N.cells, N.kind, N.text, N.marks, N.attrs, N.kids, hats])
          | cons c m =>
            have hne : ¬ bytesOf (c :: m) = ⟨#[]⟩ := fun h => by have := bytesOf_nil.1 h; cases this
            have hsz : 0 < (bytesOf (c :: m)).size := by rw [bytesOf_size]; simp
            obtain ⟨z, hz⟩ : ∃ z, byteAt (bytesOf (c :: m)) 0 = z := ⟨_, rfl⟩
            have hz0 := byteAt0 c m
            rw [hz] at hz0
            have l93 := u8_lit hz0 93
            change z = 93 ↔ c = 93 at l93
            by_cases h93 : z = 93
            · have hc := l93.1 h93
              rw [hstop (by simp [stopK, hc])] at hC
              refine hC.vc [] 60 ?_
              simp [hne, hz, h93, hsz]
              refine hC.call [.arg 0] (f144 Gl 93 (c :: m) false) (by simp) ?_
              refine hC.vc [] 6 ?_
              simp
              exact go_to (M := ⟨[(2, .ptr (.loc 2) 0)], [(.arg 0, some (rdN (wantB 93 (c :: m, false)).1 (wantB 93 (c :: m, false)).2)), (.loc 2, some (.box 87 (N.mk (bytesOf nm) ⟨#[]⟩ [] (ats.map pairB) ks).cells))]⟩) [] (hC.vc [] 5 (by simp [N.av, N.cells, N.kind, N.text, N.marks, N.attrs, N.kids])) (by simp [N.cells, N.kind, N.text, N.marks, N.attrs, N.kids, hats])
            · have hc : ¬ c = 93 := fun e => h93 (l93.2 e)
              have hs : stopK (c :: m, false) = false := by simp [stopK, hc]
              obtain ⟨q1, q2⟩ := hjl rfl
              obtain ⟨w1, w2⟩ := hnl (c :: m) q2
              have hf := hrec (c :: m) q2 (by omega)
              rw [show kidsF (nodeF k) (j + 1) (c :: m, false) = ((nodeF k (c :: m, false)).1 :: (kidsF (nodeF k) j (nodeF k (c :: m, false)).2).1, (kidsF (nodeF k) j (nodeF k (c :: m, false)).2).2) by rw [kidsF, if_neg (by rw [hs]; simp)]] at hn
              generalize nodeF k (c :: m, false) = kd at hn hf w1 w2
              obtain ⟨kn, m', b'⟩ := kd
              simp only at hn hf w1 w2
              have hkp := wt_pos kn
              refine hC.vc [] 60 ?_
              simp [hne, hz, h93, hsz]
              refine hC.call [.arg 0] hf (by simp [N.av, N.cells]) ?_
              refine hC.vc [] 60 ?_
              simp [N.av, N.cells]
              refine ⟨by simp only [List.length_cons] at hml hks; omega, ?_⟩
              exact go_to [(.can 1, .nm (.loc 69))] (ih ⟨(j, ks ++ [kn], m', b'), by dsimp only; simp only [List.length_cons] at q1; omega, fun hb => by dsimp only at hb ⊢; have := w2 hb; simp only [List.length_cons] at *; omega, by dsimp only; simp only [List.length_cons] at *; omega, by simp at hks ⊢; omega, by rw [hn]; simp⟩ (by simp)) (by simp [N.pv_eq kn])
      · -- the attributes
        have hat : attrsB (l1, false) = if (takesB 40 l1).1 = true then ((attrsGo ((takesB 40 l1).2, false)).1, wantB 41 (attrsGo ((takesB 40 l1).2, false)).2) else ([], ((takesB 40 l1).2, false)) := rfl
        refine hC.vc [] 60 ?_
        simp
        refine hC.call [.arg 0] (f143 Gl 40 l1 false) (by simp) ?_
        have ht2 := (takes_le 40 l1).1
        generalize takesB 40 l1 = tk at hat ht2 ⊢
        obtain ⟨ok, l2⟩ := tk
        simp only at hat ht2 ⊢
        cases ok with
        | false =>
          rw [if_neg (by simp)] at hat
          rw [hat] at tail
          refine hC.vc [] 3 ?_
          simp
          exact go_to [(.can 0, .nil)] (tail ()) (by simp)
        | true =>
          rw [if_pos rfl] at hat
          rw [hat] at tail
          refine hC.vc [] 60 ?_
          simp
          refine go_loop (ι := {x : Bool × List (Bs × Bs) × Bs × Bool // x.2.1.length + x.2.2.1.length ≤ l2.length + (if x.1 = true then 0 else 1) ∧ attrsGo (l2, false) = if x.1 = true then (x.2.1 ++ (attrsGo x.2.2).1, (attrsGo x.2.2).2) else x.2})
            (fun x => ⟨[(0, .ptr (.arg 0) 0), (2, .ptr (.loc 2) 0), (3, .ptr (.loc 3) 0), (4, vB x.1.1)], [(.arg 0, some (rdN x.1.2.2.1 x.1.2.2.2)), (.loc 2, some (.box 87 zero79)), (.loc 3, some (.box 87 [vT nm, vS ⟨#[]⟩, .pv (.nilS 1), .own (.can 0), .pv (.nilS 5)])), (.can 0, some (.row 136 2 (atRow x.1.2.1)))]⟩)
            (fun x => if x.1.1 = true then x.1.2.2.1.length + 1 else 0) ⟨(true, [], l2, false), by simp⟩ [(.can 0, .nil)] (by simp) fun x ih => ?_
          obtain ⟨⟨sg, ats, m, bm⟩, hm, hn⟩ := x
          simp only at hm hn ih
          have hexit : (sg = false ∨ bm = true) → attrsGo (l2, false) = (ats, (m, bm)) := fun h => by
            rw [hn]
            cases sg with
            | false => simp
            | true =>
              rcases h with h | h
              · cases h
              · subst h
                rw [if_pos rfl, attrsGo.eq_def (m, true)]
                simp
          cases sg with
          | false =>
            rw [hexit (.inl rfl)] at tail
            simp only at tail
            refine hC.vc [] 60 ?_
            simp
            refine hC.call [.arg 0] (f144 Gl 41 m bm) (by simp) ?_
            refine hC.vc [] 1 ?_
            simp
            exact go_to [] (tail ()) (by simp)
          | true =>
            cases bm with
            | true =>
              rw [hexit (.inr rfl)] at tail
              simp only at tail
              refine hC.vc [] 60 ?_
              simp
              refine hC.call [.arg 0] (f144 Gl 41 m true) (by simp) ?_
              refine hC.vc [] 1 ?_
              simp
              exact go_to [] (tail ()) (by simp)
            | false =>
              simp only [if_true, Nat.add_zero] at hn hm
              rw [attrsGo.eq_def (m, false), if_neg (by simp)] at hn
              have hle1 := attr1_le m
              obtain ⟨hl1, hl2⟩ := takes_le 32 (attrB1 m).2.1
              have ha1 : attrB1 m = (((nameB m).1, (quotedB (wantB 61 ((nameB m).2, false))).1), (quotedB (wantB 61 ((nameB m).2, false))).2) := rfl
              have hnl := name_le m
              have hwl := (want_le 61 ((nameB m).2, false)).1
              have hql := (quoted_le (wantB 61 ((nameB m).2, false))).1
              refine hC.vc [] 60 ?_
              simp
              refine hC.call [.arg 0] (f142 Gl m false (by omega)) (by simp) ?_
              generalize nameB m = nn at ha1 hnl hwl hql ⊢
              obtain ⟨a, m1⟩ := nn
              simp only at ha1 hnl hwl hql ⊢
              refine hC.vc [] 60 ?_
              simp
              refine hC.call [.arg 0] (f144 Gl 61 m1 false) (by simp) ?_
              generalize wantB 61 (m1, false) = w2 at ha1 hwl hql ⊢
              obtain ⟨m2, b2⟩ := w2
              simp only at ha1 hwl hql ⊢
              refine hC.vc [] 60 ?_
              simp
              refine hC.call [.arg 0] (f145 Gl m2 b2 (by omega)) (by simp) ?_
              generalize quotedB (m2, b2) = qq at ha1 hql ⊢
              obtain ⟨q, m3, b3⟩ := qq
              simp only at ha1 hql ⊢
              rw [ha1] at hn hl1 hl2
              simp only at hn hl1 hl2
              refine hC.vc [] 60 ?_
              simp
              refine ⟨⟨by omega, by omega⟩, ?_⟩
              refine hC.call [.arg 0] (f143 Gl 32 m3 b3) (by simp) ?_
              generalize takesB 32 m3 = t4 at hn hl1 hl2 ⊢
              obtain ⟨ok, m4⟩ := t4
              simp only at hn hl1 hl2 ⊢
              cases ok with
              | true =>
                have h4 := hl2 rfl
                rw [dif_pos rfl] at hn
                refine hC.vc [] 60 ?_
                simp
                exact go_to [(.can 0, .nm (.loc 39))] (ih ⟨(true, ats ++ [(a, q)], m4, b3), by simp; omega, by rw [hn]; simp⟩ (by simp; omega)) (by simp)
              | false =>
                rw [dif_neg (by simp)] at hn
                refine hC.vc [] 60 ?_
                simp
                exact go_to [(.can 0, .nm (.loc 39))] (ih ⟨(false, ats ++ [(a, q)], m4, b3), by simp; omega, by rw [hn]; simp⟩ (by simp)) (by simp)
end Go.Proofs.D

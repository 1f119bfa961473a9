/- The law FnMintTwice: whatever its arguments, the call returns true, and every argument reads afterwards as it read before. No condition. -/
import Derived.Test.YtciebhdoafhkbaaCapPlain
import Derived.Test.YtciebhdoafhkbaaDrawMint
import Derived.Test.YtciebhdoafhkbaaRegG
namespace Go.Proofs.Ytciebhdoafhkbaa
open Go.ChangeShapes Go.WideShapes Go.ChangeAt Go.RowKit
open Go.ChangeMaps (open_string shut_string)
set_option linter.unusedVariables false

theorem mint_again {k o r x i j s : Int} (h : mintOk k o r x i j = true) (hs : rValid s = true) : mintOk k o (bits .and .i64 r i) (mintB x j) s 0 = true ∧ mintOk k o r x (rMeet i s) j = true ∧ bits .and .i64 (bits .and .i64 r i) s = bits .and .i64 r (rMeet i s) := by
  have hv := minted_valid h
  obtain ⟨h1, h2, h3, h4, h5, h6, h7⟩ := mintOk_parts h
  have hr := capOk_rights h1
  refine ⟨?_, ?_, ?_⟩
  · unfold mintOk
    rw [hv, hs, h4, h5, h6]
    simp [inB]
  · unfold mintOk at h ⊢
    rw [rMeet_valid h2 hs]
    rw [h2] at h
    exact h
  · rw [← rMeet_of hr h2, ← rMeet_of (rMeet_valid hr h2) hs, ← rMeet_of hr (rMeet_valid h2 hs), rMeet_assoc]

def twiceV (S : Nat) (k o r x i j s : Int) : Nat → Value → World → Prop
  | 0, v, w => v = .agg #[.int .i64 k, .int .i64 o, .int .i64 r, .int .i64 x]
  | 1, v, w => v = .int .i64 i
  | 2, v, w => v = .int .i64 s
  | 3, v, w => v = .int .i64 (rMeet i s)
  | 4, v, w => v = .int .i64 j
  | 5, v, w => v = .tuple #[.agg #[.int .i64 k, .int .i64 o, .int .i64 (bits .and .i64 r (rMeet i s)), .int .i64 (mintB x j)], .bool true]
  | 6, v, w => v = .tuple #[.agg #[.int .i64 k, .int .i64 o, .int .i64 (bits .and .i64 r (rMeet i s)), .int .i64 (mintB x j)], .bool true]
  | 7, v, w => v = .agg #[.int .i64 k, .int .i64 o, .int .i64 (bits .and .i64 r (rMeet i s)), .int .i64 (mintB x j)]
  | 8, v, w => v = .bool true
  | 9, v, w => NewAt S 4 25 v w
  | 10, v, w => SetAt S 25 [k, o, bits .and .i64 r (rMeet i s), mintB x j] v w
  | 11, v, w => v = .bool true
  | _, _, _ => True
theorem twiceV_le (S : Nat) (k o r x i j s : Int) : ∀ ii jj uu ww wx, jj ≠ ii → LeN [10] ii ww wx → twiceV S k o r x i j s jj uu ww → twiceV S k o r x i j s jj uu wx := by
  intro ii jj uu ww wx hji hl h
  unfold twiceV at h ⊢
  split at h <;> first
    | exact h
    | exact NewAt.le h hl
    | exact SetAt.le h hl (by simp; omega)

set_option maxHeartbeats 4000000 in
theorem walk_FnMintTwice (v0 v1 : Value) (w : World) (w0 : BytesIn w v0) (w1 : BytesIn w v1) :
    Calls Try.prog 12 #[v0, v1] w fun e w' => e = .returned (.bool true) ∧ Below w.heap.size w w' := by
  have hd := drawMintCap v0 w w0
  have hw1 := w1
  obtain ⟨A, n, cap, bs, rfl, hn, hc, _⟩ := w0
  obtain ⟨A', n', cap', bs', rfl, hn', hc', _⟩ := w1
  by_cases h20 : (1048576 : Int) < (n : Int)
  · go_enter Try.func12, Try.ntmps12
    go_wp2_with fail
    go_ret
    exact ⟨rfl, Below.refl _ _⟩
  by_cases h21 : (1048576 : Int) < (n' : Int)
  · go_enter Try.func12, Try.ntmps12
    go_wp2_with fail
    go_ret
    exact ⟨rfl, Below.refl _ _⟩
  · go_enter Try.func12, Try.ntmps12
    go_wp2_with fail
    refine hd.mono ?_
    rintro e w1 ⟨k, o, r, x, i, j, rfl, hb1⟩
    have hA1 := IAt.new w1 25 [k, o, r, x]
    have hB1 := below_al hb1 (.cells #[.int .i64 k, .int .i64 o, .int .i64 r, .int .i64 x] 25)
    have hd2 := drawRightsText _ _ (BytesIn.below hw1 hB1)
    clear hb1 hw1 hd
    go_wp2_with fail
    refine hd2.mono ?_
    rintro e w2 ⟨s, rfl, hb2⟩
    have hA2 := hA1.belowSelf hb2
    have hB2 := below_next hB1 hb2
    have hlt2 := hA2.lt
    clear hd2 hA1 hB1 hb2
    generalize w1.heap.size = p at *
    obtain ⟨c0, c1, c2, c3⟩ := hA2.cells4
    have hM := impl_MintCap_is k o r x i j
    have hS := spec_MintCap_is k o r x i j
    unfold Minted at hM hS
    go_wp2_with fail
    refine (hM _).mono ?_
    rintro e w3 ⟨rfl, hb3⟩
    have hA3 := hA2.belowSelf hb3
    have hB3 := below_next hB2 hb3
    have hlt3 := hA3.lt
    clear c0 c1 c2 c3 hM hb3
    obtain ⟨c0, c1, c2, c3⟩ := hA3.cells4
    cases h : mintOk k o r x i j
    all_goals
      rw [h] at hS
      simp only [sel_true, sel_false] at hS ⊢
    · go_wp2_with fail
      refine (hS _).mono ?_
      rintro e w4 ⟨rfl, hb4⟩
      have hX := IAt.belowSelf (IAt.new w3 25 [0, 0, 0, 0]) hb4
      have hltX := hX.lt
      obtain ⟨d0, d1, d2, d3⟩ := hX.cells4
      go_wp2_with fail
      refine (laws_alive _).mono ?_
      rintro e w5 ⟨rfl, hb5⟩
      go_wp2_with fail
      go_ret
      exact ⟨rfl, below_next (below_al (below_next (below_al hB3 _) hb4) _) hb5⟩
    · have HM := Lib.hid (fun hs => mint_again (s := s) h hs)
      clear h
      go_wp2_with fail
      refine (hS _).mono ?_
      rintro e w4 ⟨rfl, hb4⟩
      have hA4 := IAt.belowSelf (hA3.alloc (.cells #[.int .i64 k, .int .i64 o, .int .i64 (bits .and .i64 r i), .int .i64 (mintB x j)] 25)) hb4
      have hX4 := IAt.belowSelf (IAt.new w3 25 [k, o, bits .and .i64 r i, mintB x j]) hb4
      have hB4 := below_next (below_al hB3 _) hb4
      have hltX := hX4.lt
      clear hA2 hA3 hB2 hB3 hlt2 hlt3 c0 c1 c2 c3 hb4 hS
      generalize w3.heap.size = u at *
      obtain ⟨d0, d1, d2, d3⟩ := hX4.cells4
      have hA5 := hA4.alloc (.cells #[.int .i64 k, .int .i64 o, .int .i64 (bits .and .i64 r i), .int .i64 (mintB x j)] 25)
      have hX5 := hX4.alloc (.cells #[.int .i64 k, .int .i64 o, .int .i64 (bits .and .i64 r i), .int .i64 (mintB x j)] 25)
      have hB5 := below_al hB4 (.cells #[.int .i64 k, .int .i64 o, .int .i64 (bits .and .i64 r i), .int .i64 (mintB x j)] 25)
      cases hs : rValid s
      · go_wp2_with (go_at_call 34; refine (spec_RightsValid _ _).mono ?_; rintro e w' ⟨rfl, rfl⟩)
        refine (laws_alive _).mono ?_
        rintro e w5 ⟨rfl, hb5⟩
        go_wp2_with fail
        go_ret
        exact ⟨rfl, below_next hB5 hb5⟩
      · obtain ⟨hm1, hm2, hm3⟩ := HM.out hs
        have hK1 := impl_MintCap_yes k o (bits .and .i64 r i) (mintB x j) s 0
        have HQ := Lib.hid hm3
        clear hm3 HM
        go_wp2_with (go_at_call 34; refine (spec_RightsValid _ _).mono ?_; rintro e w' ⟨rfl, rfl⟩)
        refine (hK1 _ hm1).mono ?_
        rintro e w6 ⟨rfl, hb6⟩
        have hA6 := hA5.belowSelf hb6
        have hB6 := below_next hB5 hb6
        have hlt6 := hA6.lt
        rw [mintB_zero rfl]
        clear hK1 hm1 d0 d1 d2 d3 hA4 hX4 hB4 hA5 hX5 hB5 hb6 hltX
        go_wp2_with fail
        have hA7 := hA6.alloc (.cells #[.int .i64 k, .int .i64 o, .int .i64 (bits .and .i64 (bits .and .i64 r i) s), .int .i64 (mintB x j)] 25)
        have hX7 := IAt.new w6 25 [k, o, bits .and .i64 (bits .and .i64 r i) s, mintB x j]
        simp only [List.map_cons, List.map_nil] at hX7
        have hB7 := below_al hB6 (.cells #[.int .i64 k, .int .i64 o, .int .i64 (bits .and .i64 (bits .and .i64 r i) s), .int .i64 (mintB x j)] 25)
        have hS0 : Kept w.heap.size w [(p, 25, [k, o, r, x]), (w6.heap.size, 25, [k, o, bits .and .i64 (bits .and .i64 r i) s, mintB x j])] _ := Kept.cons hA7 (Kept.cons hX7 (Kept.nil hB7 hB7.size))
        have hlt7 := hX7.lt
        have hlt8 := hA7.lt
        have hsz7 := hB7.size
        clear hA7 hX7 hB7 hA6 hB6 hlt6
        generalize w6.alloc (.cells #[.int .i64 k, .int .i64 o, .int .i64 (bits .and .i64 (bits .and .i64 r i) s), .int .i64 (mintB x j)] 25) = W at *
        generalize w6.heap.size = q at *
        generalize hB : w.heap.size = B at *
        have HB := Lib.hid hB
        clear hB
        generalize hS' : W.heap.size = S at *
        have hWS : S ≤ W.heap.size := by omega
        clear hS'
        refine wp_region_inv2 (twiceV S k o r x i j s) (RG B S w [(p, 25, [k, o, r, x]), (q, 25, [k, o, bits .and .i64 (bits .and .i64 r i) s, mintB x j])]) (LeN [10]) (by kernel_rfl) (by kernel_rfl) (by kernel_rfl) (by kernel_rfl) (twiceV_le S k o r x i j s) (⟨Kept.drew hS0, hWS, hsz7, by simp; omega⟩) ⟨?o0, ?o1, ?o2, ?o3, ?o4, ?o5, ?o6, ?o7, ?o8, ?o9, ?o10, ?o11, trivial⟩ ?hfin
        case o0 =>
          intro f a w K hF hA hsz hG hK
          have e5 : a.tmps[5]?.getD undef = .pointer (some ⟨p, 0, none⟩) := slot_of (hF 5 (by kernel_rfl)) rfl
          rw [if_pos (by rfl)]
          have hi := hG.keep.at_ 0 rfl
          obtain ⟨c0, c1, c2, c3⟩ := hi.cells4
          clear hF hA
          unfold Oper.wp execOp
          go_simp
          exact hK _ _ (rfl) (hG.same) (LeN.refl _ _ _)
        case o1 =>
          intro f a w K hF hA hsz hG hK
          have e6 : a.tmps[6]?.getD undef = .int .i64 i := slot_of (hF 6 (by kernel_rfl)) rfl
          rw [if_pos (by rfl)]
          clear hF hA
          unfold Oper.wp execOp
          go_simp
          exact hK _ _ (rfl) (hG.same) (LeN.refl _ _ _)
        case o2 =>
          intro f a w K hF hA hsz hG hK
          have e8 : a.tmps[8]?.getD undef = .int .i64 s := slot_of (hF 8 (by kernel_rfl)) rfl
          rw [if_pos (by rfl)]
          clear hF hA
          unfold Oper.wp execOp
          go_simp
          exact hK _ _ (rfl) (hG.same) (LeN.refl _ _ _)
        case o3 =>
          intro f a w K hF hA hsz hG hK
          have p71 : twiceV S k o r x i j s 1 (a.eval (.tmp 71)) w := hA ⟨1, .data⟩ (by simp) rfl _ rfl
          have q71 : a.eval (.tmp 71) = _ := p71
          have e71 := slot_eq q71
          have p72 : twiceV S k o r x i j s 2 (a.eval (.tmp 72)) w := hA ⟨2, .data⟩ (by simp) rfl _ rfl
          have q72 : a.eval (.tmp 72) = _ := p72
          have e72 := slot_eq q72
          rw [if_pos (by rfl)]
          clear hF hA
          unfold Oper.wp execOp
          go_simp
          refine (impl_RightsMeet _ _ _).mono ?_
          rintro e w1 ⟨rfl, rfl⟩
          exact hK _ _ (rfl) (hG.same) (LeN.refl _ _ _)
        case o4 =>
          intro f a w K hF hA hsz hG hK
          have e7 : a.tmps[7]?.getD undef = .int .i64 j := slot_of (hF 7 (by kernel_rfl)) rfl
          rw [if_pos (by rfl)]
          clear hF hA
          unfold Oper.wp execOp
          go_simp
          exact hK _ _ (rfl) (hG.same) (LeN.refl _ _ _)
        case o5 =>
          intro f a w K hF hA hsz hG hK
          have p70 : twiceV S k o r x i j s 0 (a.eval (.tmp 70)) w := hA ⟨0, .data⟩ (by simp) rfl _ rfl
          have q70 : a.eval (.tmp 70) = _ := p70
          have e70 := slot_eq q70
          have p73 : twiceV S k o r x i j s 3 (a.eval (.tmp 73)) w := hA ⟨3, .data⟩ (by simp) rfl _ rfl
          have q73 : a.eval (.tmp 73) = _ := p73
          have e73 := slot_eq q73
          have p74 : twiceV S k o r x i j s 4 (a.eval (.tmp 74)) w := hA ⟨4, .data⟩ (by simp) rfl _ rfl
          have q74 : a.eval (.tmp 74) = _ := p74
          have e74 := slot_eq q74
          rw [if_pos (by rfl)]
          clear hF hA
          unfold Oper.wp execOp
          go_simp
          refine (impl_MintCap_yes k o r x (rMeet i s) j _ hm2).mono ?_
          rintro e w1 ⟨rfl, hb1⟩
          exact hK _ _ (rfl) (hG.below hb1) (LeN.of hb1)
        case o6 =>
          intro f a w K hF hA hsz hG hK
          have p75 : twiceV S k o r x i j s 5 (a.eval (.tmp 75)) w := hA ⟨5, .data⟩ (by simp) rfl _ rfl
          have q75 : a.eval (.tmp 75) = _ := p75
          have e75 := slot_eq q75
          rw [if_pos (by rfl)]
          clear hF hA
          unfold Oper.wp execOp
          go_simp
          exact hK _ _ (rfl) (hG.same) (LeN.refl _ _ _)
        case o7 =>
          intro f a w K hF hA hsz hG hK
          have p69 : twiceV S k o r x i j s 6 (a.eval (.tmp 69)) w := hA ⟨6, .data⟩ (by simp) rfl _ rfl
          have q69 : a.eval (.tmp 69) = _ := p69
          have e69 := slot_eq q69
          rw [if_pos (by rfl)]
          clear hF hA
          unfold Oper.wp execOp
          go_simp
          exact hK _ _ (rfl) (hG.same) (LeN.refl _ _ _)
        case o8 =>
          intro f a w K hF hA hsz hG hK
          have p69 : twiceV S k o r x i j s 6 (a.eval (.tmp 69)) w := hA ⟨6, .data⟩ (by simp) rfl _ rfl
          have q69 : a.eval (.tmp 69) = _ := p69
          have e69 := slot_eq q69
          rw [if_pos (by rfl)]
          clear hF hA
          unfold Oper.wp execOp
          go_simp
          exact hK _ _ (rfl) (hG.same) (LeN.refl _ _ _)
        case o9 =>
          intro f a w K hF hA hsz hG hK
          rw [if_pos (by rfl)]
          clear hF hA
          unfold Oper.wp execOp
          go_simp
          exact hK _ _ (⟨_, rfl, hG.2.1, VarAt.new _ _ [0, 0, 0, 0]⟩) (hG.alloc _) (LeN.alloc _ _ _ _)
        case o10 =>
          intro f a w K hF hA hsz hG hK
          have p15 : twiceV S k o r x i j s 9 (a.eval (.tmp 15)) w := hA ⟨9, .data⟩ (by simp) rfl _ rfl
          obtain ⟨g15, q15, hg15, hn15⟩ := p15
          have e15 := slot_eq q15
          have p76 : twiceV S k o r x i j s 7 (a.eval (.tmp 76)) w := hA ⟨7, .data⟩ (by simp) rfl _ rfl
          have q76 : a.eval (.tmp 76) = _ := p76
          have e76 := slot_eq q76
          rw [if_pos (by rfl)]
          obtain ⟨u0, c0⟩ := hn15.cell (i := 0) (by omega)
          obtain ⟨u1, c1⟩ := hn15.cell (i := 1) (by omega)
          obtain ⟨u2, c2⟩ := hn15.cell (i := 2) (by omega)
          obtain ⟨u3, c3⟩ := hn15.cell (i := 3) (by omega)
          have f0 := fun i => VarAt.free (i := i) hn15
          clear hF hA
          unfold Oper.wp execOp
          go_simp
          refine hK undef _ ?_ ((RG.set (RG.set (RG.set (RG.set hG hg15 _) hg15 _) hg15 _) hg15 _)) (LeN.set (by simp) fun g n T h => VarAt.keepSet _ _ _ _ (VarAt.keepSet _ _ _ _ (VarAt.keepSet _ _ _ _ (VarAt.keepSet _ _ _ _ (h)))))
          show SetAt S 25 [k, o, bits .and .i64 r (rMeet i s), mintB x j] (a.eval (.tmp 15)) _
          exact ⟨g15, q15, hg15, hn15.set4⟩
        case o11 =>
          intro f a w K hF hA hsz hG hK
          have p77 : twiceV S k o r x i j s 8 (a.eval (.tmp 77)) w := hA ⟨8, .data⟩ (by simp) rfl _ rfl
          have q77 : a.eval (.tmp 77) = _ := p77
          have e77 := slot_eq q77
          rw [if_pos (by rfl)]
          clear hF hA
          unfold Oper.wp execOp
          go_simp
          exact hK _ _ (rfl) (hG.same) (LeN.refl _ _ _)
        case hfin =>
          intro f a w' hdef hsize hF hv hG
          have p15 : twiceV S k o r x i j s 10 (a.eval (.tmp 15)) w' := hv 10 _ rfl
          obtain ⟨g15, q15, hg15, hi15⟩ := p15
          have p16 : twiceV S k o r x i j s 11 (a.eval (.tmp 16)) w' := hv 11 _ rfl
          have q16 : a.eval (.tmp 16) = _ := p16
          have q13 : a.eval (.tmp 13) = .pointer (some ⟨q, 0, none⟩) := (hF 13 (by kernel_rfl)).trans rfl
          have q14 : a.eval (.tmp 14) = .bool true := (hF 14 (by kernel_rfl)).trans rfl
          have ha : a = ⟨#[a.eval (.tmp 0), a.eval (.tmp 1), a.eval (.tmp 2), a.eval (.tmp 3), a.eval (.tmp 4), a.eval (.tmp 5), a.eval (.tmp 6), a.eval (.tmp 7), a.eval (.tmp 8), a.eval (.tmp 9), a.eval (.tmp 10), a.eval (.tmp 11), a.eval (.tmp 12), a.eval (.tmp 13), a.eval (.tmp 14), a.eval (.tmp 15), a.eval (.tmp 16), a.eval (.tmp 17), a.eval (.tmp 18), a.eval (.tmp 19), a.eval (.tmp 20), a.eval (.tmp 21), a.eval (.tmp 22), a.eval (.tmp 23), a.eval (.tmp 24), a.eval (.tmp 25), a.eval (.tmp 26), a.eval (.tmp 27), a.eval (.tmp 28), a.eval (.tmp 29), a.eval (.tmp 30), a.eval (.tmp 31), a.eval (.tmp 32), a.eval (.tmp 33), a.eval (.tmp 34), a.eval (.tmp 35), a.eval (.tmp 36), a.eval (.tmp 37), a.eval (.tmp 38), a.eval (.tmp 39), a.eval (.tmp 40), a.eval (.tmp 41), a.eval (.tmp 42), a.eval (.tmp 43), a.eval (.tmp 44), a.eval (.tmp 45), a.eval (.tmp 46), a.eval (.tmp 47), a.eval (.tmp 48), a.eval (.tmp 49), a.eval (.tmp 50), a.eval (.tmp 51), a.eval (.tmp 52), a.eval (.tmp 53), a.eval (.tmp 54), a.eval (.tmp 55), a.eval (.tmp 56), a.eval (.tmp 57), a.eval (.tmp 58), a.eval (.tmp 59), a.eval (.tmp 60), a.eval (.tmp 61), a.eval (.tmp 62), a.eval (.tmp 63), a.eval (.tmp 64), a.eval (.tmp 65), a.eval (.tmp 66), a.eval (.tmp 67), a.eval (.tmp 68), a.eval (.tmp 69), a.eval (.tmp 70), a.eval (.tmp 71), a.eval (.tmp 72), a.eval (.tmp 73), a.eval (.tmp 74), a.eval (.tmp 75), a.eval (.tmp 76), a.eval (.tmp 77), a.eval (.tmp 78), a.eval (.tmp 79), a.eval (.tmp 80), a.eval (.tmp 81), a.eval (.tmp 82), a.eval (.tmp 83), a.eval (.tmp 84), a.eval (.tmp 85), a.eval (.tmp 86)], []⟩ := (act_lit a (n := 87) hsize).trans (by rw [hdef]; rfl)
          rw [q15, q16, q13, q14] at ha
          generalize a.eval (.tmp 0) = s0 at ha
          generalize a.eval (.tmp 1) = s1 at ha
          generalize a.eval (.tmp 2) = s2 at ha
          generalize a.eval (.tmp 3) = s3 at ha
          generalize a.eval (.tmp 4) = s4 at ha
          generalize a.eval (.tmp 5) = s5 at ha
          generalize a.eval (.tmp 6) = s6 at ha
          generalize a.eval (.tmp 7) = s7 at ha
          generalize a.eval (.tmp 8) = s8 at ha
          generalize a.eval (.tmp 9) = s9 at ha
          generalize a.eval (.tmp 10) = s10 at ha
          generalize a.eval (.tmp 11) = s11 at ha
          generalize a.eval (.tmp 12) = s12 at ha
          generalize a.eval (.tmp 17) = s17 at ha
          generalize a.eval (.tmp 18) = s18 at ha
          generalize a.eval (.tmp 19) = s19 at ha
          generalize a.eval (.tmp 20) = s20 at ha
          generalize a.eval (.tmp 21) = s21 at ha
          generalize a.eval (.tmp 22) = s22 at ha
          generalize a.eval (.tmp 23) = s23 at ha
          generalize a.eval (.tmp 24) = s24 at ha
          generalize a.eval (.tmp 25) = s25 at ha
          generalize a.eval (.tmp 26) = s26 at ha
          generalize a.eval (.tmp 27) = s27 at ha
          generalize a.eval (.tmp 28) = s28 at ha
          generalize a.eval (.tmp 29) = s29 at ha
          generalize a.eval (.tmp 30) = s30 at ha
          generalize a.eval (.tmp 31) = s31 at ha
          generalize a.eval (.tmp 32) = s32 at ha
          generalize a.eval (.tmp 33) = s33 at ha
          generalize a.eval (.tmp 34) = s34 at ha
          generalize a.eval (.tmp 35) = s35 at ha
          generalize a.eval (.tmp 36) = s36 at ha
          generalize a.eval (.tmp 37) = s37 at ha
          generalize a.eval (.tmp 38) = s38 at ha
          generalize a.eval (.tmp 39) = s39 at ha
          generalize a.eval (.tmp 40) = s40 at ha
          generalize a.eval (.tmp 41) = s41 at ha
          generalize a.eval (.tmp 42) = s42 at ha
          generalize a.eval (.tmp 43) = s43 at ha
          generalize a.eval (.tmp 44) = s44 at ha
          generalize a.eval (.tmp 45) = s45 at ha
          generalize a.eval (.tmp 46) = s46 at ha
          generalize a.eval (.tmp 47) = s47 at ha
          generalize a.eval (.tmp 48) = s48 at ha
          generalize a.eval (.tmp 49) = s49 at ha
          generalize a.eval (.tmp 50) = s50 at ha
          generalize a.eval (.tmp 51) = s51 at ha
          generalize a.eval (.tmp 52) = s52 at ha
          generalize a.eval (.tmp 53) = s53 at ha
          generalize a.eval (.tmp 54) = s54 at ha
          generalize a.eval (.tmp 55) = s55 at ha
          generalize a.eval (.tmp 56) = s56 at ha
          generalize a.eval (.tmp 57) = s57 at ha
          generalize a.eval (.tmp 58) = s58 at ha
          generalize a.eval (.tmp 59) = s59 at ha
          generalize a.eval (.tmp 60) = s60 at ha
          generalize a.eval (.tmp 61) = s61 at ha
          generalize a.eval (.tmp 62) = s62 at ha
          generalize a.eval (.tmp 63) = s63 at ha
          generalize a.eval (.tmp 64) = s64 at ha
          generalize a.eval (.tmp 65) = s65 at ha
          generalize a.eval (.tmp 66) = s66 at ha
          generalize a.eval (.tmp 67) = s67 at ha
          generalize a.eval (.tmp 68) = s68 at ha
          generalize a.eval (.tmp 69) = s69 at ha
          generalize a.eval (.tmp 70) = s70 at ha
          generalize a.eval (.tmp 71) = s71 at ha
          generalize a.eval (.tmp 72) = s72 at ha
          generalize a.eval (.tmp 73) = s73 at ha
          generalize a.eval (.tmp 74) = s74 at ha
          generalize a.eval (.tmp 75) = s75 at ha
          generalize a.eval (.tmp 76) = s76 at ha
          generalize a.eval (.tmp 77) = s77 at ha
          generalize a.eval (.tmp 78) = s78 at ha
          generalize a.eval (.tmp 79) = s79 at ha
          generalize a.eval (.tmp 80) = s80 at ha
          generalize a.eval (.tmp 81) = s81 at ha
          generalize a.eval (.tmp 82) = s82 at ha
          generalize a.eval (.tmp 83) = s83 at ha
          generalize a.eval (.tmp 84) = s84 at ha
          generalize a.eval (.tmp 85) = s85 at ha
          generalize a.eval (.tmp 86) = s86 at ha
          clear hdef hsize hF hv q15 q16 q13 q14
          subst ha
          have hA9 := hG.keep.at_ 1 rfl
          have hB9 := hG.keep.2.1
          obtain ⟨c0, c1, c2, c3⟩ := hA9.cells4
          obtain ⟨d0, d1, d2, d3⟩ := hi15.cells4
          rw [← HQ.out] at d2
          go_wp2_with fail
          go_ret
          exact ⟨rfl, HB.out ▸ hB9⟩

set_option maxRecDepth 100000 in
theorem lifted_FnMintTwice (os : Os) (started : os.Started) (H : Type) (enc : TypeId × Value → H) :
    ReturnsInHanded {} Try.checked os 12 .any (Rows.fnMintTwiceSpec.pre6 enc Try.prog Try.f12 Rows.fnMintTwiceRow.domain false) (Rows.fnMintTwiceSpec.post enc Try.prog Try.f12 false true false false) := by
  refine returnsInHanded_of_change (C := Try.checked) row_own started (by kernel_rfl) Try.func12
    (ChangeSpec.witness6 (enc := enc) (C := Try.checked) false ⟨#[], #[.slice none 0 0, .slice none 0 0], []⟩ 8 (by kernel_rfl) (by kernel_rfl) (by kernel_rfl) (by kernel_rfl)) ?_
  intro W base args ds gs before hval0 hW hcnd _
  have hval : ∀ (j : Nat) t v, Try.f12.params[j]? = some t → args[j]? = some v → Value.okWide Try.prog W .any base t v := hval0
  have hW' := hW
  obtain ⟨p, q, hA0, hV, rfl, hfz, hnd⟩ := hW
  have hA : DataW.TrodAll enc Try.prog W 0 (fun _ => true) true Try.f12.params.toList args.toList ds p := hA0
  rw [Try.params12] at hA hval
  obtain ⟨v0, vs0, d0, ds0, p0, q0, hargs, rfl, rfl, h0, r0⟩ := trodAll_cons hA
  obtain ⟨v1, vs1, d1, ds1, p1, q1, rfl, rfl, rfl, h1, r1⟩ := trodAll_cons r0
  obtain ⟨rfl, rfl, rfl⟩ := trodAll_nil r1
  obtain rfl : args = #[v0, v1] := by cases args; simp_all
  obtain ⟨rfl, rfl⟩ := trodVars_none hV
  have k0 := h0
  have lt0 : ∀ x ∈ p0, x.block < W.heap.size := by obtain ⟨m, hm⟩ := k0; exact DataW.trod_lt m _ _ _ hm
  have w0 := open_bytes (hval 0 36 v0 rfl rfl) h0
  have k1 := h1
  have lt1 : ∀ x ∈ p1, x.block < W.heap.size := by obtain ⟨m, hm⟩ := k1; exact DataW.trod_lt m _ _ _ hm
  have w1 := open_bytes (hval 1 36 v1 rfl rfl) h1
  clear hA0 hval0
  refine (walk_FnMintTwice v0 v1 W w0 w1).mono fun e W' ⟨he, bel⟩ => ?_
  subst he
  exact ⟨_, rfl, _, _, _, [], _, [], hW', trodAll_mk1 (shut_bool Try.underlying4 _), (trodAll_cons_mk (Below.trod row_laidOut (by kernel_rfl) (of_decide_eq_true (by kernel_rfl)) k0 bel lt0) (trodAll_cons_mk (Below.trod row_laidOut (by kernel_rfl) (of_decide_eq_true (by kernel_rfl)) k1 bel lt1) trodAll_mk0)), rfl, bel.frame _, fun h => by cases h⟩

theorem over_FnMintTwice : Rows.fnMintTwiceRow.holds Try.pinned (OpenSpec.ofChange Rows.fnMintTwiceSpec) :=
  OpenClaim.holds_of_wide 12 Try.f12 rfl rfl rfl rfl rfl rfl rfl ⟨rfl, rfl, rfl, rfl, rfl⟩ rfl rfl rfl rfl rfl (by kernel_rfl) Try.func12 (by kernel_rfl)
    (of_decide_eq_true (by kernel_rfl)) (by unfold Func.isWrapper; first | (rw [if_pos (by decide +kernel)]; kernel_rfl) | (rw [if_neg (by decide +kernel)]; exact ⟨rfl, rfl⟩))
    (fun os started H enc _ => lifted_FnMintTwice os started H enc)

theorem FnMintTwice_holds : Rows.FnMintTwiceSaid := over_FnMintTwice

end Go.Proofs.Ytciebhdoafhkbaa

/- The law FnPieceValid: whatever its arguments, the call returns true, and every argument reads afterwards as it read before. No condition. -/
import Derived.Test.YtabjkjbclpokeaaPieceR
import Derived.Test.YtabjkjbclpokeaaDrawPieceLaws
import Derived.Test.YtabjkjbclpokeaaTexts
namespace Go.Proofs.Ytabjkjbclpokeaa
open Go.ChangeShapes Go.WideShapes Go.ChangeAt Go.RowKit
open Go.ChangeMaps (open_string shut_string)
set_option linter.unusedVariables false

theorem pieceOk_moved {s b u : Int} (h : pieceOk s b u = true) (hb : b ≠ 0) : pieceOk (s + 1) b u = false := by
  obtain ⟨⟨b0, b1⟩, _, hm, _⟩ := pieceOk_iff.1 h
  have h2 : 2 ≤ pw b := by
    have := pw_le (a := 1) (b := b) (by omega) (by omega)
    have e : pw 1 = 2 := rfl
    omega
  cases hx : pieceOk (s + 1) b u
  · rfl
  · have hy := (pieceOk_iff.1 hx).2.2.1
    rw [Int.add_emod, hm, Int.zero_add, Int.emod_emod, Int.emod_eq_of_lt (by omega) (by omega)] at hy
    omega
theorem pieceOk_over (s b : Int) : pieceOk s b (pw b + 1) = false := by
  cases hx : pieceOk s b (pw b + 1)
  · rfl
  · have hy := (pieceOk_iff.1 hx).2.2.2
    omega

set_option maxHeartbeats 4000000 in
theorem walk_FnPieceValid (v0 : Value) (w : World) (w0 : BytesIn w v0) :
    Calls Try.prog 9 #[v0] w fun e w' => e = .returned (.bool true) ∧ Below w.heap.size w w' := by
  have hd := drawPieceValid v0 w w0
  obtain ⟨A, n, cap, bs, rfl, hn, hc, _⟩ := w0
  by_cases h20 : (1048576 : Int) < (n : Int)
  · go_enter Try.func9, Try.ntmps9
    go_wp2_with fail
    go_ret
    exact ⟨rfl, Below.refl _ _⟩
  · go_enter Try.func9, Try.ntmps9
    go_wp2_with fail
    refine hd.mono ?_
    rintro e w1 ⟨s, b, u, rfl, hb1⟩
    have hA1 := IAt.new w1 25 [s, b, u]
    have hB1 := below_al hb1 (.cells #[.int .i64 s, .int .i64 b, .int .i64 u] 25)
    have hI := impl_PieceValid s b u
    have hS := spec_PieceValid s b u
    clear hb1 hd
    go_wp2_with fail
    refine (hI _).mono ?_
    rintro e w2 ⟨rfl, hb2⟩
    have hA2 := hA1.belowSelf hb2
    have hB2 := below_next hB1 hb2
    have hlt2 := hA2.lt
    clear hA1 hB1 hb2
    generalize w1.heap.size = p at *
    obtain ⟨c0, c1, c2⟩ := hA2.cells3
    go_wp2_with fail
    refine (hS _).mono ?_
    rintro e w3 ⟨rfl, hb3⟩
    have hA3 := hA2.belowSelf hb3
    have hB3 := below_next hB2 hb3
    have hlt3 := hA3.lt
    clear hA2 hB2 hb3 c0 c1 c2 hI hS hlt2
    cases hp : pieceOk s b u
    · go_wp2_with fail
      refine (laws_alive _).mono ?_
      rintro e w4 ⟨rfl, hb4⟩
      go_wp2_with fail
      go_ret
      exact ⟨rfl, below_next hB3 hb4⟩
    · obtain ⟨⟨b0, b1⟩, ⟨s0, s1⟩, -, u0, u1⟩ := pieceOk_iff.1 hp
      have hV1 := Lib.hid (fun hb => pieceOk_moved hp hb)
      have hV2 := impl_PieceValid s b (pw b + 1)
      rw [pieceOk_over] at hV2
      have hI1 := impl_PieceValid (s + 1) b u
      have hsh := pw_wrap b1
      have hp1 := pw_pos b
      have hp2 := pw_max b1
      clear hp
      generalize pw b = P at *
      obtain ⟨c0, c1, c2⟩ := hA3.cells3
      cases hb0 : (b == 0)
      · have hbn : b ≠ 0 := by simpa using hb0
        rw [hV1.out hbn] at hI1
        clear hbn hV1
        go_wp2_with fail
        refine (hI1 _).mono ?_
        rintro e w4 ⟨rfl, hb4⟩
        have hX := IAt.belowSelf (IAt.new (w3.alloc (.cells #[.int .i64 (s + 1), .int .i64 b, .int .i64 u] 25)) 25 [s, b, P + 1]) hb4
        rw [World.size_alloc] at hX
        have hlx := hX.lt
        clear c0 c1 c2
        obtain ⟨c0, c1, c2⟩ := hX.cells3
        go_wp2_with fail
        refine (hV2 _).mono ?_
        rintro e w5 ⟨rfl, hb5⟩
        go_wp2_with fail
        go_ret
        exact ⟨rfl, below_next (below_next (below_al (below_al hB3 _) _) hb4) hb5⟩
      · go_wp2_with fail
        refine (hV2 _).mono ?_
        rintro e w5 ⟨rfl, hb5⟩
        go_wp2_with fail
        go_ret
        exact ⟨rfl, below_next (below_al (below_al hB3 _) _) hb5⟩

set_option maxRecDepth 100000 in
theorem lifted_FnPieceValid (os : Os) (started : os.Started) (H : Type) (enc : TypeId × Value → H) :
    ReturnsInHanded {} Try.checked os 9 .any (Rows.fnPieceValidSpec.pre6 enc Try.prog Try.f9 Rows.fnPieceValidRow.domain false) (Rows.fnPieceValidSpec.post enc Try.prog Try.f9 false true false false) := by
  refine returnsInHanded_of_change (C := Try.checked) row_own started (by kernel_rfl) Try.func9
    (ChangeSpec.witness6 (enc := enc) (C := Try.checked) false ⟨#[], #[.slice none 0 0], []⟩ 8 (by kernel_rfl) (by kernel_rfl) (by kernel_rfl) (by kernel_rfl)) ?_
  intro W base args ds gs before hval0 hW hcnd _
  have hval : ∀ (j : Nat) t v, Try.f9.params[j]? = some t → args[j]? = some v → Value.okWide Try.prog W .any base t v := hval0
  have hW' := hW
  obtain ⟨p, q, hA0, hV, rfl, hfz, hnd⟩ := hW
  have hA : DataW.TrodAll enc Try.prog W 0 (fun _ => true) true Try.f9.params.toList args.toList ds p := hA0
  rw [Try.params9] at hA hval
  obtain ⟨v0, vs0, d0, ds0, p0, q0, hargs, rfl, rfl, h0, r0⟩ := trodAll_cons hA
  obtain ⟨rfl, rfl, rfl⟩ := trodAll_nil r0
  obtain rfl : args = #[v0] := by cases args; simp_all
  obtain ⟨rfl, rfl⟩ := trodVars_none hV
  have k0 := h0
  have lt0 : ∀ x ∈ p0, x.block < W.heap.size := by obtain ⟨m, hm⟩ := k0; exact DataW.trod_lt m _ _ _ hm
  have w0 := open_bytes (hval 0 41 v0 rfl rfl) h0
  clear hA0 hval0
  refine (walk_FnPieceValid v0 W w0).mono fun e W' ⟨he, bel⟩ => ?_
  subst he
  exact ⟨_, rfl, _, _, _, [], _, [], hW', trodAll_mk1 (shut_bool Try.underlying4 _), (trodAll_cons_mk (Below.trod row_laidOut (by kernel_rfl) (of_decide_eq_true (by kernel_rfl)) k0 bel lt0) trodAll_mk0), rfl, bel.frame _, fun h => by cases h⟩

theorem over_FnPieceValid : Rows.fnPieceValidRow.holds Try.pinned (OpenSpec.ofChange Rows.fnPieceValidSpec) :=
  OpenClaim.holds_of_wide 9 Try.f9 rfl rfl rfl rfl rfl rfl rfl ⟨rfl, rfl, rfl, rfl, rfl⟩ rfl rfl rfl rfl rfl (by kernel_rfl) Try.func9 (by kernel_rfl)
    (of_decide_eq_true (by kernel_rfl)) (by unfold Func.isWrapper; first | (rw [if_pos (by decide +kernel)]; kernel_rfl) | (rw [if_neg (by decide +kernel)]; exact ⟨rfl, rfl⟩))
    (fun os started H enc _ => lifted_FnPieceValid os started H enc)

theorem FnPieceValid_holds : Rows.FnPieceValidSaid := over_FnPieceValid

end Go.Proofs.Ytabjkjbclpokeaa

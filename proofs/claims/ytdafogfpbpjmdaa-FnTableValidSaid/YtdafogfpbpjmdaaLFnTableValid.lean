/- The law FnTableValid: whatever its arguments, the call returns true, and every argument reads afterwards as it read before. No condition. -/
import Derived.Test.YtdafogfpbpjmdaaTabX
import Derived.Test.YtdafogfpbpjmdaaTabW
import Derived.Test.YtdafogfpbpjmdaaDrawTabLaws
import Derived.Test.YtdafogfpbpjmdaaTexts
namespace Go.Proofs.Ytdafogfpbpjmdaa
open Go.ChangeShapes Go.WideShapes Go.ChangeAt Go.RowKit
open Go.ChangeMaps (open_string shut_string)
set_option linter.unusedVariables false

set_option maxRecDepth 100000 in
set_option maxHeartbeats 16000000 in
theorem walk_FnTableValid (v0 : Value) (w : World) (w0 : BytesIn w v0) :
    Calls Try.prog 8 #[v0] w fun e w' => e = .returned (.bool true) ∧ Below w.heap.size w w' := by
  have hd := drawTableValid v0 w w0
  obtain ⟨Ac, nc, capc, bs, rfl, hnc, hcc, _⟩ := w0
  by_cases h20 : (1048576 : Int) < (nc : Int)
  · go_enter Try.func8, Try.ntmps8
    go_wp2_with fail
    go_ret
    exact ⟨rfl, Below.refl _ _⟩
  · go_enter Try.func8, Try.ntmps8
    go_wp2_with fail
    refine hd.mono ?_
    rintro e w1 ⟨x, y, z, S, n, c, cs, rfl, hR, hn8, hnc, hcm, hb1⟩
    have hX := CAt.new w1 29 [.int .i64 x, .int .i64 y, .int .i64 z, .slice S n c]
    have hR1 := hR.below (below_al (Below.refl _ w1) (.cells #[.int .i64 x, .int .i64 y, .int .i64 z, .slice S n c] 29))
    have hB1 := below_al hb1 (.cells #[.int .i64 x, .int .i64 y, .int .i64 z, .slice S n c] 29)
    have hIV := fun W (h : CapRd W S n cs) => impl_TableValid x y z S n c cs W h (by omega)
    have hSV := fun W (h : CapRd W S n cs) => spec_TableValid x y z S n c cs W h (by omega)
    generalize hz : tabOk ⟨x, y, z, cs⟩ = q at *
    have HZ := Lib.hid hz
    clear hz hd hR hb1
    obtain ⟨x0, x1, x2, x3⟩ := hX.cells4
    have fX := hX.free
    go_wp2_with fail
    refine (hIV _ hR1).mono ?_
    rintro e w2 ⟨rfl, hb2⟩
    have hX2 := hX.below hb2
    have hR2 := hR1.below hb2
    have hB2 := below_next hB1 hb2
    clear hX hR1 hB1 hb2 x0 x1 x2 x3 fX
    obtain ⟨x0, x1, x2, x3⟩ := hX2.cells4
    have fX := hX2.free
    go_wp2_with fail
    refine (hSV _ hR2).mono ?_
    rintro e w3 ⟨rfl, hb3⟩
    have hX3 := hX2.below hb3
    have hR3 := hR2.below hb3
    have hB3 := below_next hB2 hb3
    clear hX2 hR2 hB2 hb3 x0 x1 x2 x3 fX hIV hSV
    obtain ⟨x0, x1, x2, x3⟩ := hX3.cells4
    have fX := hX3.free
    cases q
    · go_wp2_with fail
      refine (laws_alive _).mono ?_
      rintro e wz ⟨rfl, hbz⟩
      go_wp2_with fail
      go_ret
      exact ⟨rfl, below_next hB3 hbz⟩
    · have hx1 := (headOk_iff.1 (tabOk_iff.1 HZ.out).1).1.1
      have hxl := (headOk_iff.1 (tabOk_iff.1 HZ.out).1).2.2.2
      simp only at hx1 hxl
      have hx2 := pw_two hx1
      have hl := hR3.1
      obtain ⟨n1, rfl⟩ : ∃ n1, n = n1 + 1 := ⟨n - 1, by omega⟩
      obtain ⟨c1, rfl⟩ : ∃ c1, c = c1 + 1 := ⟨c - 1, by omega⟩
      have hc10 : ¬ c1 = 0 := by omega
      obtain ⟨g, o, rfl, -⟩ := hR3.2 (by omega)
      have hTl := tabOk_tail HZ.out
      have hGd := tabOk_guard ⟨x, y, z, cs⟩
      simp only at hTl hGd
      have hRt := hR3.tail
      clear hxl hx2
      have hlt3 := hX3.lt
      have hA := fun W (h : CapRd W (some ⟨g, o + 4, none⟩) n1 (cs.drop 1)) => impl_TableValid x y z (some ⟨g, o + 4, none⟩) n1 c1 (cs.drop 1) W h (by omega)
      have hG := fun W (h : CapRd W (some ⟨g, o, none⟩) (n1 + 1) cs) => impl_TableValid x 16 z (some ⟨g, o, none⟩) (n1 + 1) (c1 + 1) cs W h (by omega)
      rw [hTl] at hA
      rw [hGd] at hG
      have HR3 := Lib.hid hR3
      have HRT := Lib.hid hRt
      have HB3 := Lib.hid hB3
      clear hR3 hRt hB3 hTl hGd
      go_wp2_with fail
      have hb34 := below_al (below_al (Below.refl _ w3) (.cells #[.int .i64 x, .int .i64 y, .int .i64 z, .slice (some ⟨g, o + 4, none⟩) n1 c1] 29)) (.cells #[.int .i64 x, .int .i64 16, .int .i64 z, .slice (some ⟨g, o, none⟩) (n1 + 1) (c1 + 1)] 29)
      have hX6 : CAt ((w3.alloc (.cells #[.int .i64 x, .int .i64 y, .int .i64 z, .slice (some ⟨g, o + 4, none⟩) n1 c1] 29)).alloc (.cells #[.int .i64 x, .int .i64 16, .int .i64 z, .slice (some ⟨g, o, none⟩) (n1 + 1) (c1 + 1)] 29)) (w3.heap.size + 1) 29 [.int .i64 x, .int .i64 16, .int .i64 z, .slice (some ⟨g, o, none⟩) (n1 + 1) (c1 + 1)] := by
        have h := CAt.new (w3.alloc (.cells #[.int .i64 x, .int .i64 y, .int .i64 z, .slice (some ⟨g, o + 4, none⟩) n1 c1] 29)) 29 [.int .i64 x, .int .i64 16, .int .i64 z, .slice (some ⟨g, o, none⟩) (n1 + 1) (c1 + 1)]
        have hs : (w3.alloc (.cells #[.int .i64 x, .int .i64 y, .int .i64 z, .slice (some ⟨g, o + 4, none⟩) n1 c1] 29)).heap.size = w3.heap.size + 1 := by simp
        rwa [hs] at h
      generalize (w3.alloc (.cells #[.int .i64 x, .int .i64 y, .int .i64 z, .slice (some ⟨g, o + 4, none⟩) n1 c1] 29)).alloc (.cells #[.int .i64 x, .int .i64 16, .int .i64 z, .slice (some ⟨g, o, none⟩) (n1 + 1) (c1 + 1)] 29) = W4 at *
      refine (hA _ (HRT.out.below hb34)).mono ?_
      rintro e w5 ⟨rfl, hb5⟩
      have hX7 := hX6.below hb5
      have hR5 := (HR3.out.below hb34).below hb5
      have hB5 := below_next (below_next HB3.out hb34) hb5
      clear hX6 hb34 hb5 x0 x1 x2 x3 fX hX3
      obtain ⟨x0, x1, x2, x3⟩ := hX7.cells4
      have fX := hX7.free
      go_wp2_with fail
      refine (hG _ hR5).mono ?_
      rintro e w6 ⟨rfl, hb6⟩
      go_wp2_with fail
      go_ret
      exact ⟨rfl, below_next hB5 hb6⟩

set_option maxRecDepth 100000 in
theorem lifted_FnTableValid (os : Os) (started : os.Started) (H : Type) (enc : TypeId × Value → H) :
    ReturnsInHanded {} Try.checked os 8 .any (Rows.fnTableValidSpec.pre6 enc Try.prog Try.f8 Rows.fnTableValidRow.domain false) (Rows.fnTableValidSpec.post enc Try.prog Try.f8 false true false false) := by
  refine returnsInHanded_of_change (C := Try.checked) row_own started (by kernel_rfl) Try.func8
    (ChangeSpec.witness6 (enc := enc) (C := Try.checked) false ⟨#[], #[.slice none 0 0], []⟩ 8 (by kernel_rfl) (by kernel_rfl) (by kernel_rfl) (by kernel_rfl)) ?_
  intro W base args ds gs before hval0 hW hcnd _
  have hval : ∀ (j : Nat) t v, Try.f8.params[j]? = some t → args[j]? = some v → Value.okWide Try.prog W .any base t v := hval0
  have hW' := hW
  obtain ⟨p, q, hA0, hV, rfl, hfz, hnd⟩ := hW
  have hA : DataW.TrodAll enc Try.prog W 0 (fun _ => true) true Try.f8.params.toList args.toList ds p := hA0
  rw [Try.params8] at hA hval
  obtain ⟨v0, vs0, d0, ds0, p0, q0, hargs, rfl, rfl, h0, r0⟩ := trodAll_cons hA
  obtain ⟨rfl, rfl, rfl⟩ := trodAll_nil r0
  obtain rfl : args = #[v0] := by cases args; simp_all
  obtain ⟨rfl, rfl⟩ := trodVars_none hV
  have k0 := h0
  have lt0 : ∀ x ∈ p0, x.block < W.heap.size := by obtain ⟨m, hm⟩ := k0; exact DataW.trod_lt m _ _ _ hm
  have w0 := open_bytes (hval 0 53 v0 rfl rfl) h0
  clear hA0 hval0
  refine (walk_FnTableValid v0 W w0).mono fun e W' ⟨he, bel⟩ => ?_
  subst he
  exact ⟨_, rfl, _, _, _, [], _, [], hW', trodAll_mk1 (shut_bool Try.underlying4 _), (trodAll_cons_mk (Below.trod row_laidOut (by kernel_rfl) (of_decide_eq_true (by kernel_rfl)) k0 bel lt0) trodAll_mk0), rfl, bel.frame _, fun h => by cases h⟩

theorem over_FnTableValid : Rows.fnTableValidRow.holds Try.pinned (OpenSpec.ofChange Rows.fnTableValidSpec) :=
  OpenClaim.holds_of_wide 8 Try.f8 rfl rfl rfl rfl rfl rfl rfl ⟨rfl, rfl, rfl, rfl, rfl⟩ rfl rfl rfl rfl rfl (by kernel_rfl) Try.func8 (by kernel_rfl)
    (of_decide_eq_true (by kernel_rfl)) (by unfold Func.isWrapper; first | (rw [if_pos (by decide +kernel)]; kernel_rfl) | (rw [if_neg (by decide +kernel)]; exact ⟨rfl, rfl⟩))
    (fun os started H enc _ => lifted_FnTableValid os started H enc)

theorem FnTableValid_holds : Rows.FnTableValidSaid := over_FnTableValid

end Go.Proofs.Ytdafogfpbpjmdaa

/- Lists of capabilities: szCapS, toCapS, eqCapS, markCapS, heldCapS. No condition beyond those written. -/
import Derived.Test.YtdafogfpbpjmdaaTabO
import Derived.Test.YtdafogfpbpjmdaaMint3
import Derived.Test.YtdafogfpbpjmdaaHeld
import Derived.Deep.RegionHeld3
namespace Go.Proofs.Ytdafogfpbpjmdaa
open Go.RowKit
set_option linter.unusedVariables false

theorem laws_szCapS (A : Option Addr) (n c : Nat) (k : Int) (w : World) (h0 : 0 ≤ k) (h1 : k ≤ 9000000000) (hn : (n : Int) ≤ 9223372036854775807) :
    Calls Try.prog 43 #[.slice A n c, .int .i64 k] w fun e w' => e = .returned (.int .i64 (if k < n then -1 else k - n)) ∧ w = w' := by
  have hw : IntKind.i64.wrap (k - n) = k - n := by rw [IntKind.wrap_i64]; omega
  by_cases hlt : k - (n : Int) < 0
  · go_enter Try.func43, Try.ntmps43
    go_wp2_with fail
    go_ret
    exact ⟨rfl, rfl⟩
  · go_enter Try.func43, Try.ntmps43
    go_wp2_with fail
    go_ret
    exact ⟨rfl, rfl⟩

set_option maxHeartbeats 4000000 in
theorem laws_toCapS (A : Option Addr) (n c : Nat) (es : List Cp) (w : World) (h : CapRd w A n es) (hn : n ≤ 2000000) :
    Calls Try.prog 46 #[.slice A n c] w fun e w' => (∃ (A' : Option Addr) (c' : Nat), e = .returned (.slice A' n c') ∧ CapO w' w.heap.size A' n c' es) ∧ Below w.heap.size w w' := by
  obtain ⟨cs, hcs, hmk⟩ := make_caps n hn
  have H := Lib.hid h
  have HCS := Lib.hid hcs
  clear h hcs
  go_enter Try.func46, Try.ntmps46
  go_wp2_with fail
  have hO : CapO (w.alloc (.cells cs 41)) w.heap.size (some ⟨w.heap.size, 0, none⟩) n n (List.replicate n C0) := by
    refine ⟨by rw [flatC_len]; simp, Nat.le_refl _, by simp only [maxLen]; omega, fun _ => ⟨_, cs, rfl, Nat.le_refl _, heap_alloc_new w _, ?_⟩⟩
    rw [HCS.out, List.take_of_length_le (by rw [flatC_len]; simp)]
  have hB := below_al (Below.refl _ w) (.cells cs 41)
  have HO := Lib.hid hO
  have HB := Lib.hid hB
  clear hO hB HCS hmk
  generalize w.alloc (.cells cs 41) = W at *
  generalize hG : w.heap.size = G at *
  have HG := Lib.hid hG
  clear hG
  go_loopw [4] (fun i wr => ∃ (j : Nat) (vs : List Cp), j ≤ n ∧ i = .int .i64 j ∧ CapO wr G (some ⟨G, 0, none⟩) n n vs ∧ (∀ t, t < j → vs.getD t C0 = es.getD t C0) ∧ Below G w wr) (fun i _ => n - (intOf i).toNat)
  case atStart => exact ⟨0, _, Nat.zero_le _, rfl, HO.out, fun t ht => absurd ht (by omega), HB.out⟩
  case round =>
    obtain ⟨j, vs, hj, rfl, ho, hpre, hb⟩ := hrel
    by_cases hlt : j < n
    · have hR := H.out.below (HG.out ▸ hb)
      obtain ⟨g, o, rfl, hgl, hcells⟩ := hR.2 (by omega)
      obtain ⟨a0, a1, a2, a3⟩ := hcells j hlt
      have HPRE := Lib.hid hpre
      have HOO := Lib.hid ho
      have HBB := Lib.hid hb
      have hlt' : (j : Int) < (n : Int) := by omega
      have hj0 : (0 : Int) ≤ (j : Int) := by omega
      clear hcells hpre ho hb hR HO HB
      have hcall := fun W => laws_toCap (es.getD j C0).k (es.getD j C0).o (es.getD j C0).r (es.getD j C0).b W
      generalize hee : es.getD j C0 = e at *
      have HEE := Lib.hid hee
      clear hee
      go_wp2_with fail
      refine (hcall _).mono ?_
      rintro r w1 ⟨rfl, hb1⟩
      have hO1 : CapO w1 G (some ⟨G, 0, none⟩) n n vs := RowO.below HOO.out hb1
      obtain ⟨g', hA', _, hgl1, hcell1, f1⟩ := hO1.at_ (by omega)
      injection hA' with hA'
      injection hA' with hA'
      subst hA'
      obtain ⟨e0, e1, e2, e3⟩ := hcell1 j hlt
      have HO1 := Lib.hid (hO1.setAll j hlt e)
      have HB1 := Lib.hid (HBB.out.trans (hb1.mono (by have := HBB.out.size; have := HG.out; omega)))
      have HVL := Lib.hid hO1.len
      clear hcell1 hO1 hb1 hcall a0 a1 a2 a3 HBB HOO
      go_wp2_with fail
      go_roundw
      case rel =>
        refine ⟨j + 1, vs.set j e, by omega, by go_num, HO1.out, fun t ht => ?_, ?_⟩
        · by_cases h : j = t
          · subst h
            rw [HEE.out]
            simp [List.getD, HVL.out, hlt]
          · rw [← HPRE.out t (by omega)]
            simp [List.getD, h]
        · have hB := HB1.out
          iterate 4 refine Below.setCell ?_ (by simp) _
          exact hB
      case measure => simp [intOf]; omega
    · have hge : ¬ (j : Int) < (n : Int) := by omega
      have hjn : j = n := by omega
      subst hjn
      have hee : vs = es := list_ext (d := C0) (by rw [ho.len, H.out.1]) fun t ht => hpre t (by rw [ho.len] at ht; exact ht)
      subst hee
      have HOO := Lib.hid ho
      have HBB := Lib.hid hb
      clear ho hpre hb
      go_wp2_with fail
      go_ret
      subst_vars
      exact ⟨⟨_, _, rfl, HOO.out⟩, HBB.out⟩

end Go.Proofs.Ytdafogfpbpjmdaa

/- What szEntryS and toEntryS do. No condition beyond those written. -/
import Derived.Test.YtpglfbjjmnaojaaEntMake
namespace Go.Proofs.Ytpglfbjjmnaojaa
open Go.RowKit
set_option linter.unusedVariables false

theorem laws_szEntryS (A : Option Addr) (n c : Nat) (k : Int) (w : World) (h0 : 0 ≤ k) (h1 : k ≤ 9000000000) (hn : (n : Int) ≤ 9223372036854775807) :
    Calls Try.prog 17 #[.slice A n c, .int .i64 k] w fun e w' => e = .returned (.int .i64 (if k < n then -1 else k - n)) ∧ w = w' := by
  have hw : IntKind.i64.wrap (k - n) = k - n := by rw [IntKind.wrap_i64]; omega
  by_cases hlt : k - (n : Int) < 0
  · go_enter Try.func17, Try.ntmps17
    go_wp2_with fail
    go_ret
    exact ⟨rfl, rfl⟩
  · go_enter Try.func17, Try.ntmps17
    go_wp2_with fail
    go_ret
    exact ⟨rfl, rfl⟩

/-- All six cells of one entry written. -/
theorem EntO.setAll {w : World} {base n c g : Nat} {es : List Ent} (h : EntO w base (some ⟨g, 0, none⟩) n c es) (i : Nat) (hi : i < n) (e : Ent) :
    EntO ((((((w.setCell ⟨g, i * 6, none⟩ (.int .i64 e.k)).setCell ⟨g, i * 6 + 1, none⟩ (.int .i64 e.o)).setCell ⟨g, i * 6 + 2, none⟩ (.int .i64 e.r)).setCell ⟨g, i * 6 + 3, none⟩ (.int .i64 e.b)).setCell ⟨g, i * 6 + 4, none⟩ (.int .i64 e.p)).setCell ⟨g, i * 6 + 5, none⟩ (.bool e.g))
      base (some ⟨g, 0, none⟩) n c (es.set i e) := by
  have hl := h.len
  have at_ : ∀ (l : List Ent) (x : Ent), l.length = n → (l.set i x).getD i E0 = x := fun l x hl => by simp [List.getD, hl, hi]
  obtain ⟨k, o, r, b, p, q, hx⟩ : ∃ k o r b p q, es.getD i E0 = ⟨k, o, r, b, p, q⟩ := ⟨_, _, _, _, _, _, rfl⟩
  have h1 := h.set i 0 hi (by omega) ⟨e.k, o, r, b, p, q⟩ (.int .i64 e.k) (by rw [hx]; rfl)
  have h2 := h1.set i 1 hi (by omega) ⟨e.k, e.o, r, b, p, q⟩ (.int .i64 e.o) (by rw [at_ _ _ hl]; rfl)
  have h3 := h2.set i 2 hi (by omega) ⟨e.k, e.o, e.r, b, p, q⟩ (.int .i64 e.r) (by rw [at_ _ _ h1.len]; rfl)
  have h4 := h3.set i 3 hi (by omega) ⟨e.k, e.o, e.r, e.b, p, q⟩ (.int .i64 e.b) (by rw [at_ _ _ h2.len]; rfl)
  have h5 := h4.set i 4 hi (by omega) ⟨e.k, e.o, e.r, e.b, e.p, q⟩ (.int .i64 e.p) (by rw [at_ _ _ h3.len]; rfl)
  have h6 := h5.set i 5 hi (by omega) ⟨e.k, e.o, e.r, e.b, e.p, e.g⟩ (.bool e.g) (by rw [at_ _ _ h4.len]; rfl)
  simpa only [List.set_set, Nat.add_zero] using h6

theorem ents_ext {es es' : List Ent} (hl : es.length = es'.length) (h : ∀ t, t < es.length → es.getD t E0 = es'.getD t E0) : es = es' := by
  apply List.ext_getElem hl
  intro i h1 h2
  have := h i h1
  simpa [List.getD, h1, h2] using this

set_option maxHeartbeats 4000000 in
theorem laws_toEntryS (A : Option Addr) (n c : Nat) (es : List Ent) (w : World) (h : EntR w A n c es) (hn : n ≤ 2000000) :
    Calls Try.prog 19 #[.slice A n c] w fun e w' => (∃ (A' : Option Addr) (c' : Nat), e = .returned (.slice A' n c') ∧ EntO w' w.heap.size A' n c' es) ∧ Below w.heap.size w w' := by
  obtain ⟨cs, hcs, hmk⟩ := make_ents n hn
  have H := Lib.hid h
  have HCS := Lib.hid hcs
  clear h hcs
  go_enter Try.func19, Try.ntmps19
  go_wp2_with fail
  have hO : EntO (w.alloc (.cells cs 48)) w.heap.size (some ⟨w.heap.size, 0, none⟩) n n (List.replicate n E0) := by
    refine ⟨by simp, Nat.le_refl _, by simp only [maxLen]; omega, fun _ => ⟨_, cs, rfl, Nat.le_refl _, heap_alloc_new w _, ?_⟩⟩
    rw [HCS.out, List.take_of_length_le (by rw [flat_len]; simp)]
  have hB := below_al (Below.refl _ w) (.cells cs 48)
  have HO := Lib.hid hO
  have HB := Lib.hid hB
  clear hO hB HCS hmk
  generalize w.alloc (.cells cs 48) = W at *
  generalize hG : w.heap.size = G at *
  have HG := Lib.hid hG
  clear hG
  go_loopw [4] (fun i wr => ∃ (j : Nat) (vs : List Ent), j ≤ n ∧ i = .int .i64 j ∧ EntO wr G (some ⟨G, 0, none⟩) n n vs ∧ (∀ t, t < j → vs.getD t E0 = es.getD t E0) ∧ Below G w wr) (fun i _ => n - (intOf i).toNat)
  case atStart => exact ⟨0, _, Nat.zero_le _, rfl, HO.out, fun t ht => absurd ht (by omega), HB.out⟩
  case round =>
    obtain ⟨j, vs, hj, rfl, ho, hpre, hb⟩ := hrel
    by_cases hlt : j < n
    · have hR := H.out.below (HG.out ▸ hb)
      obtain ⟨g, o, rfl, hgl, hcells⟩ := hR.2.2.2 (by omega)
      obtain ⟨a0, a1, a2, a3, a4, a5⟩ := hcells j hlt
      have HPRE := Lib.hid hpre
      have HOO := Lib.hid ho
      have HBB := Lib.hid hb
      have HESL := Lib.hid H.out.1
      have hlt' : (j : Int) < (n : Int) := by omega
      have hj0 : (0 : Int) ≤ (j : Int) := by omega
      clear hcells hpre ho hb hR HO HB
      have hcall := laws_toEntry (es.getD j E0)
      simp only [Ent.val] at hcall
      generalize hee : es.getD j E0 = e at *
      have HEE := Lib.hid hee
      clear hee
      go_wp2_with fail
      refine (hcall _).mono ?_
      rintro r w1 ⟨rfl, hb1⟩
      have hO1 := HOO.out.below hb1
      obtain ⟨g', hA', _, hgl1, hcell1, f1⟩ := hO1.at_ (by omega)
      injection hA' with hA'
      injection hA' with hA'
      subst hA'
      obtain ⟨e0, e1, e2, e3, e4, e5⟩ := hcell1 j hlt
      have HO1 := Lib.hid (hO1.setAll j hlt e)
      have HB1 := Lib.hid (HBB.out.trans (hb1.mono (by have := HBB.out.size; have := HG.out; omega)))
      have HVL := Lib.hid hO1.len
      clear hcell1 hO1 hb1 hcall a0 a1 a2 a3 a4 a5 HBB HOO
      go_wp2_with fail
      go_roundw
      case rel =>
        refine ⟨j + 1, vs.set j e, by omega, by go_num, HO1.out, fun t ht => ?_, ?_⟩
        · by_cases h : j = t
          · subst h
            rw [HEE.out]
            simp [List.getD, HVL.out, hlt]
          · rw [← HPRE.out t (by omega)]
            simp [List.getD, h]
        · have hB := HB1.out
          iterate 6 refine Below.setCell ?_ (by simp) _
          exact hB
      case measure => simp [intOf]; omega
    · have hge : ¬ (j : Int) < (n : Int) := by omega
      have hjn : j = n := by omega
      subst hjn
      have hee : vs = es := ents_ext (by rw [ho.len, H.out.1]) fun t ht => hpre t (by rw [ho.len] at ht; exact ht)
      subst hee
      have HOO := Lib.hid ho
      have HBB := Lib.hid hb
      clear ho hpre hb
      go_wp2_with fail
      go_ret
      subst_vars
      exact ⟨⟨_, _, rfl, HOO.out⟩, HBB.out⟩

end Go.Proofs.Ytpglfbjjmnaojaa

/- The draw of a list of tables, whatever the code. No condition. -/
import Derived.Test.YtdafogfpbpjmdaaDrawTab
import Derived.Test.YtdafogfpbpjmdaaDrawTabsT
import Derived.Test.YtdafogfpbpjmdaaTabT
namespace Go.Proofs.Ytdafogfpbpjmdaa
open Go.RowKit
set_option linter.unusedVariables false

theorem TsE.head {w0 w : World} {b M n c : Nat} {A : Option Addr} {rs : List TR} (h : TsE w0 b M A n c rs w) (hn : 0 < n) :
    ∃ (g : Nat) (r : TR), A = some ⟨g, 0, none⟩ ∧ w0.heap.size ≤ g ∧ g < w.heap.size ∧ w.cell? ⟨g, 0, none⟩ = some (.int .i64 r.t.bits) ∧ w.cell? ⟨g, 1, none⟩ = some (.int .i64 r.t.guard) ∧ w.cell? ⟨g, 2, none⟩ = some (.int .i64 r.t.gbits) ∧ w.cell? ⟨g, 3, none⟩ = some (.slice r.S r.t.slots.length r.c) ∧ (∀ j, w.frozen? ⟨g, j, none⟩ = false) := by
  have hl := h.len
  obtain ⟨g, h1, h2, h3, h4, h5⟩ := h.row.at_ hn
  have hc : ∀ d, d < 4 → w.cell? ⟨g, d, none⟩ = (rs.getD 0 TR0).cells[d]? := fun d hd => by
    rw [h4 _ (by omega)]
    have : (flatT rs)[0 * 4 + d]? = (rs.getD 0 TR0).cells[d]? := flatG_get (f := TR.cells) (sz := 4) (d := TR0) (fun _ => rfl) rs 0 d (by omega) hd
    simpa only [Nat.zero_mul, Nat.zero_add] using this
  exact ⟨g, rs.getD 0 TR0, h1, h2, h3, hc 0 (by omega), hc 1 (by omega), hc 2 (by omega), hc 3 (by omega), h5⟩
/-- Zero tables just made. -/
theorem zero_tables {w0 w : World} {b M n : Nat} {cs : Array Value} (hr : Rd w b M) (ho : Only b w0 w) (hb : b < w0.heap.size) (hcs : cs.toList = flatT (List.replicate n TR0)) (hn : n ≤ 2000000) :
    TsE w0 b M (some ⟨w.heap.size, 0, none⟩) n n (List.replicate n TR0) (w.alloc (.cells cs 29)) := by
  have hr0 : ∀ i, (List.replicate n TR0).getD i TR0 = TR0 := fun i => by
    by_cases h : i < n <;> simp [List.getD, h]
  refine ⟨hr.alloc _, ho.alloc _, ⟨by rw [flatT_len, List.length_replicate], Nat.le_refl _, by simp only [maxLen]; omega, fun _ => ⟨w.heap.size, cs, rfl, ho.size, heap_alloc_new w _, ?_⟩⟩, fun i hi => ?_, hb⟩
  · rw [hcs, ← show (flatT (List.replicate n TR0)).length = n * 4 by rw [flatT_len, List.length_replicate], List.take_length]
  · rw [hr0]
    exact ⟨⟨CapRd.nil _ _, fun g o h0 => absurd h0 (by simp [TR0, T0])⟩, Nat.zero_le _, Nat.zero_le _, by simp [TR0]⟩

set_option maxRecDepth 8000 in
set_option maxHeartbeats 8000000 in
theorem tables_any (n0 : Int) (b m : Nat) (w : World) (hm : m ≤ 600000000) (h : Rd w b m) (hn : n0 ≤ 1000000) :
    Calls Try.prog 61 #[.pointer (some ⟨b, 0, none⟩), .int .i64 n0] w (DrawnTabs b (m + 10000) w) := by
  obtain ⟨ic, hci, hcz0, hcz1, hcz2⟩ := info_parts table_info
  have HIC := Lib.hid (And.intro hci (And.intro hcz0 (And.intro hcz1 hcz2)))
  obtain ⟨zs, hzs, hmk0⟩ := make_tables 11 (by omega)
  have HZS := Lib.hid hzs
  have hmk : ∀ w : World, (Instr.makeSlice 36 (.int .i64 11) (.int .i64 11)).run Try.prog w = .ok (.slice (some ⟨w.heap.size, 0, none⟩) 11 11) (w.alloc (.cells zs 29)) := hmk0
  have hbw := h.lt
  clear hci hcz0 hcz1 hcz2 hzs hmk0
  go_enter Try.func61, Try.ntmps61
  go_wp2_with fail
  refine (pick_any _ _ _ _ (by omega) h).mono ?_
  rintro e w1 ⟨k, rfl, k0, k1, hR1, hO1⟩
  have k1' := k1 (by omega)
  have hTs : TsD w b (m + 1) (some ⟨w1.heap.size, 0, none⟩) 0 0 [] (w1.alloc (.cells #[] 29)) := ⟨hR1.alloc _, hO1.alloc _, own_fresh _ _ rfl hO1.size, fun i hi => absurd hi (by omega), hbw⟩
  have HTs := Lib.hid hTs
  have hwk : wrap64 (1 + k - 1) = k := by rw [show 1 + k - 1 = k by omega]; exact wrap_id (by omega) (by omega)
  clear hTs hR1 hO1 k1 h
  go_wp2_with fail
  go_loopw [6, 7] (fun av kv wr => ∃ (n c M : Nat) (A : Option Addr) (rs : List TR), (n : Int) ≤ 1 + k ∧ kv = .int .i64 n ∧ av = .slice A n c ∧ M ≤ m + 10 + n * 1100 ∧ TsD w b M A n c rs wr) (fun _ kv _ => (1 + k - intOf kv).toNat)
  case atStart => exact ⟨0, 0, _, _, [], by omega, rfl, rfl, by omega, HTs.out⟩
  case round =>
    clear HTs
    obtain ⟨n, c, M, A, rs, hnk, rfl, rfl, hM, hT⟩ := hrel
    by_cases hlt : (n : Int) < 1 + k
    · have HT := Lib.hid hT
      clear hT
      go_wp2_with fail
      refine (table_any _ _ _ _ _ (by omega) HT.out.rd (by omega) ⟨by omega, by omega⟩).mono ?_
      rintro e w2 ⟨x, y, z, S, q, cq, cs, rfl, hN, hq8, hqc, hcm, hR2, hO2⟩
      have hl := hN.1.1
      subst hl
      have hT2 := HT.out.step hR2 hO2
      have hN2 := hN.more HT.out.only.size
      have hS2 : SlotN (w2.alloc (.cells #[.int .i64 x, .int .i64 y, .int .i64 z, .slice S cs.length cq] 29)) w.heap.size ⟨⟨x, y, z, cs⟩, S, cq⟩ :=
        ⟨hN2.keep (by simp) fun g cur _ hlt _ => Below.heap_alloc w2 _ g hlt, hq8, hqc, hcm⟩
      have HS2 := Lib.hid hS2
      have HT2 := Lib.hid (hT2.alloc (.cells #[.int .i64 x, .int .i64 y, .int .i64 z, .slice S cs.length cq] 29))
      have hown := fun o' => own_below hT2.own (below_al (Below.refl _ w2) o')
      obtain ⟨hci, hcz0, hcz1, hcz2⟩ := HIC.out
      have hl0 := hT2.len
      have hsz2 := hT2.only.size
      clear hN hN2 hS2 hR2 hO2 HT hT2
      go_wp2_with (at_builtin; refine wpList_append_own _ rfl _ _ 36 rfl w.heap.size 29 ic _ 4 48 Try.underlying36 hci hcz0 hcz1 hcz2 rfl (by decide) _ _ _ rfl (hown _) ⟨w2.heap.size, 0, none⟩ 1 1 [.int .i64 x, .int .i64 y, .int .i64 z, .slice S cs.length cq] rfl ?rc1 ?rc2 ?rc3 ?rc4 ?rc5 ?rc6 ?_)
      case rc1 => rfl
      case rc2 =>
        intro k u hk
        rw [Go.WideShapes.add_plain, Nat.zero_add]
        exact ((CAt.new w2 29 [.int .i64 x, .int .i64 y, .int .i64 z, .slice S cs.length cq]).cell k).trans hk
      case rc3 => intro u hu; simp at hu; rcases hu with rfl | rfl | rfl | rfl <;> rfl
      case rc4 => simp only [maxLen]; omega
      case rc5 => omega
      case rc6 => simp; omega
      intro v' w5 hown' hgrow' _
      obtain ⟨S', c', rfl⟩ : ∃ A' c', v' = .slice A' (n + 1) c' := by
        rcases hown'.2 with ⟨rfl, h0⟩ | ⟨g, cap, cur, rfl, _⟩
        · exact ⟨none, 0, by rw [h0]⟩
        · exact ⟨_, _, rfl⟩
      have HT5 := Lib.hid (HT2.out.push HS2.out hgrow' hown')
      clear hown hown' hgrow' HT2 HS2
      go_wp2_with fail
      go_roundw
      case rel => exact ⟨n + 1, c', _, _, _, by omega, by go_num, rfl, by omega, HT5.out⟩
      case measure => simp [intOf]; omega
    · obtain ⟨k', hk'⟩ : ∃ k' : Nat, (k' : Int) = k := ⟨k.toNat, by omega⟩
      have hnk' : n = k' + 1 := by omega
      subst hnk' hk'
      have HT := Lib.hid hT
      clear hT
      go_wp2_with fail
      refine (odd_any _ _ _ _ (by omega) HT.out.rd hn).mono ?_
      rintro e w4 ⟨q, rfl, hR4, hO4⟩
      have HE := Lib.hid (HT.out.step hR4 hO4).te
      clear HT hR4 hO4
      cases q
      · go_wp2_with fail
        go_ret
        exact HE.out.done (by omega) (by omega) (by omega)
      · go_wp2_with fail
        refine (pick_any _ _ _ _ (by omega) HE.out.rd).mono ?_
        rintro e w5 ⟨p, rfl, p0, p1, hR5, hO5⟩
        have HE5 := Lib.hid (HE.out.step hR5 hO5)
        clear HE hR5 hO5 p1
        by_cases hp0 : p = 0
        · subst hp0
          go_wp2_with fail
          refine (table_any _ _ _ _ _ (by omega) HE5.out.rd (by omega) ⟨by omega, by omega⟩).mono ?_
          rintro e w6 ⟨x, y, z, S, q, cq, cs, rfl, hN, hq8, hqc, hcm, hR6, hO6⟩
          have hl := hN.1.1
          subst hl
          have hE6 := HE5.out.step hR6 hO6
          have hN6 := hN.more HE5.out.only.size
          obtain ⟨g, r, hA, hg1, hg2, z0, z1, z2, z3, fz⟩ := hE6.head (by omega)
          subst hA
          have HS := Lib.hid (show SlotN w6 w.heap.size ⟨⟨x, y, z, cs⟩, S, cq⟩ from ⟨hN6, hq8, hqc, hcm⟩)
          have HE6 := Lib.hid hE6
          clear hE6 hN hN6 hR6 hO6 HE5
          go_wp2_with fail
          go_ret
          exact (HE6.out.set0 (by omega) ⟨⟨x, y, z, cs⟩, S, cq⟩ HS.out).done (by omega) (by omega) (by omega)
        · have hpb0 : (p == 0) = false := by rw [beq_eq_false_iff_ne]; exact hp0
          go_wp2_with fail
          go_ret
          exact (zero_tables HE5.out.rd HE5.out.only hbw HZS.out (by omega)).done (by omega) (by omega) (by omega)

end Go.Proofs.Ytdafogfpbpjmdaa

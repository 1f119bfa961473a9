/- The law FnDescendants: whatever its arguments, the call returns true, and every argument reads afterwards as it read before. No condition. -/
import Derived.Test.YtpglfbjjmnaojaaTreeSame
namespace Go.Proofs.Ytpglfbjjmnaojaa
open Go.ChangeShapes Go.WideShapes Go.ChangeAt Go.RowKit
open Go.ChangeMaps (open_string shut_string)
set_option linter.unusedVariables false

theorem desc_sub {es : List Ent} {n m : Int} (hv : dValid es = true) (hn : 0 ≤ n) (h : m ∈ desc es n) : List.Sublist (desc es m) (desc es n) := by
  have e : desc es m = (desc es n).filter fun i => decide (m < i) && below es m i := by
    unfold desc descTo
    rw [List.filter_filter]
    apply List.filter_congr
    intro i hi
    obtain ⟨j, hj, rfl⟩ := List.mem_map.1 hi
    have hj' := List.mem_range.1 hj
    by_cases hh : m < Int.ofNat j ∧ below es m (Int.ofNat j) = true
    · have hb := below_trans hv hn (mem_desc.1 h).2.1 (mem_desc.1 h).1.2 (mem_desc.1 h).2.2 (Int.ofNat j) (Int.natCast_nonneg j) (by show (j : Int) < _; omega) hh.2
      have hlt : n < Int.ofNat j := by have := (mem_desc.1 h).2.1; have := hh.1; omega
      rw [hh.2, hb, decide_eq_true hh.1, decide_eq_true hlt]
      rfl
    · have : (decide (m < Int.ofNat j) && below es m (Int.ofNat j)) = false := by
        cases hc : (decide (m < Int.ofNat j) && below es m (Int.ofNat j))
        · rfl
        · simp only [Bool.and_eq_true, decide_eq_true_eq] at hc
          exact absurd hc hh
      rw [this]
      rfl
  rw [e]
  exact List.filter_sublist
theorem sub_hit {x : Int} {L M : List Int} {j a : Nat} (hj : j < L.length) (ha : a < M.length) (h : List.Sublist (M.drop a) (L.drop j)) (hx : L.getD j 0 = M.getD a 0) : List.Sublist (M.drop (a + 1)) (L.drop (j + 1)) := by
  rw [List.drop_eq_getElem_cons hj, List.drop_eq_getElem_cons ha] at h
  have e : L[j] = M[a] := by simpa [List.getD, hj, ha] using hx
  rw [e] at h
  exact List.cons_sublist_cons.1 h
theorem sub_miss {L M : List Int} {j a : Nat} (hj : j < L.length) (ha : a < M.length) (h : List.Sublist (M.drop a) (L.drop j)) (hx : ¬ L.getD j 0 = M.getD a 0) : List.Sublist (M.drop a) (L.drop (j + 1)) := by
  rw [List.drop_eq_getElem_cons hj, List.drop_eq_getElem_cons ha] at h
  have e : ¬ L[j] = M[a] := by simpa [List.getD, hj, ha] using hx
  rw [List.drop_eq_getElem_cons ha]
  generalize L[j] = x at *
  generalize M[a] = y at *
  cases h with
  | cons _ h => exact h
  | cons_cons _ h => exact absurd rfl e
theorem sub_end {L M : List Int} {j a : Nat} (hj : ¬ j < L.length) (ha : a ≤ M.length) (h : List.Sublist (M.drop a) (L.drop j)) : a = M.length := by
  have e : L.drop j = [] := List.drop_eq_nil_of_le (by omega)
  rw [e] at h
  have := List.sublist_nil.1 h
  have h2 := congrArg List.length this
  simp at h2
  omega
/-- What the inner loop keeps. -/
def SubR (L M : List Int) (W : World) (av jv : Value) (wr : World) : Prop := ∃ a j q : Nat, a ≤ M.length ∧ j ≤ L.length ∧ av = .int .i64 a ∧ jv = .int .i64 j ∧ List.Sublist (M.drop a) (L.drop j) ∧ wr = W.drewN q

set_option maxRecDepth 100000 in
set_option maxHeartbeats 16000000 in
theorem walk_FnDescendants (v0 : Value) (w : World) (w0 : BytesIn w v0) :
    Calls Try.prog 13 #[v0] w fun e w' => e = .returned (.bool true) ∧ Below w.heap.size w w' := by
  have hd := drawDescendants v0 w w0
  obtain ⟨Ac, nc, capc, bs, rfl, hnc, hcc, _⟩ := w0
  by_cases h20 : (1048576 : Int) < (nc : Int)
  · go_enter Try.func13, Try.ntmps13
    go_wp2_with fail
    go_ret
    exact ⟨rfl, Below.refl _ _⟩
  · go_enter Try.func13, Try.ntmps13
    go_wp2_with fail
    refine hd.mono ?_
    rintro e w1 ⟨A, k, c, es, n, rfl, hE, hk, hB⟩
    have hK1 := EntK.of hE hB hB.size
    have hlen := hE.1
    clear hE hB hd
    have hle := descL_len es n
    go_wp2_with fail
    refine (impl_Descendants A k c _ es n _ hK1.1 (by omega)).mono ?_
    rintro e w2 ⟨D, d, rfl, hI2, hb2⟩
    have hK2 := EntK.step hb2 ⟨hK1, trivial⟩
    clear hK1 hb2
    go_wp2_with fail
    refine (spec_Descendants A k c _ es n _ hK2.1 (by omega)).mono ?_
    rintro e w3 ⟨E, e0, rfl, hJ3, hb3⟩
    have hK3 := EntK.step hb3 ⟨hK2, trivial⟩
    have hI3 := hI2.below hb3
    clear hK2 hI2 hb3
    go_wp2_with fail
    refine (laws_sameIntO D E (descL es n).length d e0 _ _ (descL es n) _ hI3 hJ3 (by omega)).mono ?_
    rintro e w4 ⟨rfl, hb4⟩
    have hK4 := EntK.step hb4 ⟨hK3, trivial⟩
    have hI4 := hI3.below hb4
    clear hK3 hI3 hJ3 hb4
    have HLEN := Lib.hid hlen
    have hlive : ∀ j : Nat, j < (descL es n).length → liveB es n = true := fun j hj => by
      cases hl : liveB es n
      · rw [descL_dead hl] at hj; simp at hj
      · rfl
    have hdl : ∀ j : Nat, j < (descL es n).length → descL es n = desc es n := fun j hj => descL_live (hlive j hj)
    have HLIVE := Lib.hid hlive
    have HDL := Lib.hid hdl
    have hK5 : EntK w4.heap.size w4 A k c w.heap.size es w4 := ⟨hK4.1, Below.refl _ _, Nat.le_refl _⟩
    have HB4 := Lib.hid hK4.2.1
    have HZ4 := Lib.hid hK4.2.2
    have HK5 := Lib.hid hK5
    have HI4 := Lib.hid hI4
    generalize hL : descL es n = L at *
    have HL := Lib.hid hL
    generalize hq : L.length = q at *
    have HQ := Lib.hid hq
    clear hlive hdl hK4 hK5 hI4 hlen hL hq
    go_wp2_with fail
    go_loopw [6] (fun i wr => ∃ j : Nat, j ≤ q ∧ i = .int .i64 j ∧ EntK w4.heap.size w4 A k c w.heap.size es wr) (fun i _ => q - (intOf i).toNat)
    case atStart => exact ⟨0, by omega, rfl, HK5.out⟩
    case round =>
      clear HK5
      obtain ⟨j, hj, rfl, hK⟩ := hrel
      by_cases hlt : j < q
      · have hlt' : (j : Int) < (q : Int) := by omega
        have hj0 : (0 : Int) ≤ (j : Int) := by omega
        have hliv := HLIVE.out j hlt
        have hdd := HDL.out j hlt
        obtain ⟨hv, ⟨n0, n1⟩, hgn⟩ := liveB_iff.1 hliv
        obtain ⟨m, rfl⟩ := Int.eq_ofNat_of_zero_le n0
        obtain ⟨i, hLi, hil⟩ := desc_at (es := es) (m := (m : Int)) (k := j) (by rw [← hdd, HQ.out]; exact hlt)
        have hmem : (i : Int) ∈ desc es m := by
          rw [← hLi, ← hdd, show L.getD j 0 = L[j]'(by rw [HQ.out]; exact hlt) by simp [List.getD, HQ.out, hlt]]
          exact List.getElem_mem _
        have hmi := (mem_desc.1 hmem).2.1
        have hbel := (mem_desc.1 hmem).2.2
        have hgi := below_live hv (by omega) (by omega) (by omega) hbel
        have hwi := below_within hv (by omega) i (by omega) (by omega) hbel
        have hsub := desc_sub hv (by omega) hmem
        rw [← hdd] at hLi hsub
        have hik : i < k := by have := HLEN.out; omega
        have hmk : m < k := by have := HLEN.out; omega
        have hik' : (i : Int) < (k : Int) := by omega
        have hmk' : (m : Int) < (k : Int) := by omega
        have hi0 : (0 : Int) ≤ (i : Int) := by omega
        have hm0 : (0 : Int) ≤ (m : Int) := by omega
        have hnle : ¬ (i : Int) ≤ (m : Int) := by omega
        have hnleb : decide ((i : Int) ≤ (m : Int)) = false := decide_eq_false hnle
        have hnlen : decide (i ≤ m) = false := decide_eq_false (by omega)
        rw [entAt_nat] at hgi
        rw [entAt_nat, entAt_nat] at hwi
        obtain ⟨k1, o1, r1, b1, p1, q1, hx⟩ : ∃ k o r b p q, es.getD i E0 = ⟨k, o, r, b, p, q⟩ := ⟨_, _, _, _, _, _, rfl⟩
        obtain ⟨k2, o2, r2, b2, p2, q2, hx2⟩ : ∃ k o r b p q, es.getD m E0 = ⟨k, o, r, b, p, q⟩ := ⟨_, _, _, _, _, _, rfl⟩
        rw [hx] at hgi hwi
        rw [hx2] at hwi
        have hq1 : q1 = false := hgi
        subst hq1
        have hcap : capWithin k1 o1 r1 b1 k2 o2 r2 b2 = true := hwi
        have hcw := fun W => impl_CapWithin k1 o1 r1 b1 k2 o2 r2 b2 W
        rw [hcap] at hcw
        obtain ⟨g, rfl, -, hgl, -⟩ := hK.1.at_ (by omega)
        have hI := HI4.out.below hK.2.1
        obtain ⟨gD, rfl, -, hgD, hcD, -⟩ := hI.at_ (by omega)
        have cD := hcD j hlt
        rw [hLi] at cD
        have hlivi := desc_live hv (by omega) hmem
        have HX := Lib.hid hx
        have HX2 := Lib.hid hx2
        have HSUB := Lib.hid hsub
        have HLIVI := Lib.hid hlivi
        have hdle := desc_len_le es i
        have hel := HLEN.out
        obtain ⟨-, x0, x1, x2, x3, x4, x5, y0, y1, y2, y3, y4, y5⟩ := hK.cells2 hik hx hmk hx2
        have hKh := hK
        clear hx hx2 hsub hlivi hmem hmi hbel hgi hwi hcap hLi hliv hdd hv n0 n1 hgn hcD hI hK hnle
        go_wp2_with fail
        (first
          | (go_region_held3 (fun w' => EntK w4.heap.size w4 (some ⟨g, 0, none⟩) k c w.heap.size es w' ∧ w'.cell? ⟨g, i * 6, none⟩ = some (.int .i64 k1) ∧ w'.cell? ⟨g, i * 6 + 1, none⟩ = some (.int .i64 o1) ∧ w'.cell? ⟨g, i * 6 + 2, none⟩ = some (.int .i64 r1) ∧ w'.cell? ⟨g, i * 6 + 3, none⟩ = some (.int .i64 b1) ∧ w'.cell? ⟨g, i * 6 + 4, none⟩ = some (.int .i64 p1) ∧ w'.cell? ⟨g, i * 6 + 5, none⟩ = some (.bool false) ∧ w'.cell? ⟨g, m * 6, none⟩ = some (.int .i64 k2) ∧ w'.cell? ⟨g, m * 6 + 1, none⟩ = some (.int .i64 o2) ∧ w'.cell? ⟨g, m * 6 + 2, none⟩ = some (.int .i64 r2) ∧ w'.cell? ⟨g, m * 6 + 3, none⟩ = some (.int .i64 b2) ∧ w'.cell? ⟨g, m * 6 + 4, none⟩ = some (.int .i64 p2) ∧ w'.cell? ⟨g, m * 6 + 5, none⟩ = some (.bool q2))
              (first | exact (EntK.drew hKh).cells2 hik HX.out hmk HX2.out | exact (EntK.step (by assumption) (by assumption)).cells2 hik HX.out hmk HX2.out)
              (first | (go_at_call 45; refine (hcw _).mono ?_; rintro e w9 ⟨rfl, hb9⟩)))
          | fail)
        have hT : EntK w4.heap.size w4 (some ⟨g, 0, none⟩) k c w.heap.size es w9 := And.left (by assumption)
        have hde := impl_Descendants (some ⟨g, 0, none⟩) k c w.heap.size es i w9 hT.1 (by omega)
        rw [descL_live HLIVI.out] at hde
        have HT := Lib.hid hT
        clear hT hKh x0 x1 x2 x3 x4 x5 y0 y1 y2 y3 y4 y5 hcw cD
        go_wp2_with fail
        refine hde.mono ?_
        rintro e w10 ⟨M, md, rfl, hM, hb10⟩
        have HT10 := Lib.hid (EntK.step hb10 ⟨HT.out, trivial⟩)
        have HM := Lib.hid hM
        generalize hLM : desc es i = LM at *
        generalize hqm : LM.length = qm at *
        have HQM := Lib.hid hqm
        clear hde hb10 hM HT hLM hqm
        go_wp2_with fail
        go_loopw [9, 10] (fun av jv wr => SubR L LM w10 av jv wr) (fun _ jv _ => q - (intOf jv).toNat)
        case atStart => exact ⟨0, 0, 0, Nat.zero_le _, Nat.zero_le _, rfl, rfl, HSUB.out, rfl⟩
        case round =>
          obtain ⟨a, t, dq, ha, ht, rfl, rfl, hs, rfl⟩ := hrel
          rw [HQM.out] at ha
          rw [HQ.out] at ht
          by_cases htq : t < q
          · have htq' : (t : Int) < (q : Int) := by omega
            have ht0 : (0 : Int) ≤ (t : Int) := by omega
            by_cases haq : a < qm
            · have haq' : (a : Int) < (qm : Int) := by omega
              have ha0 : (0 : Int) ≤ (a : Int) := by omega
              have hI := HI4.out.below HT10.out.2.1
              obtain ⟨g1, h1, -, -, hc1, -⟩ := hI.at_ (by omega)
              injection h1 with h1
              injection h1 with h1
              subst h1
              obtain ⟨gM, rfl, -, -, hcM, -⟩ := HM.out.at_ (by omega)
              have c1 := hc1 t htq
              have cM := hcM a haq
              have hhit := fun h => sub_hit (x := 0) (by rw [HQ.out]; exact htq) (by rw [HQM.out]; exact haq) hs h
              have hmiss := fun h => sub_miss (by rw [HQ.out]; exact htq) (by rw [HQM.out]; exact haq) hs h
              have HHIT := Lib.hid hhit
              have HMISS := Lib.hid hmiss
              clear hI hc1 hcM hs hhit hmiss
              generalize L.getD t 0 = vl at *
              generalize LM.getD a 0 = vm at *
              by_cases hvv : vl = vm
              · have HS := Lib.hid (HHIT.out hvv)
                subst hvv
                clear HHIT HMISS
                go_wp2_with fail
                go_quiet (fail)
                go_wp2_with fail
                go_roundw
                case rel => exact ⟨a + 1, t + 1, _, by rw [HQM.out]; omega, by rw [HQ.out]; omega, by go_num, by go_num, HS.out, by first | rfl | (rw [World.drewN_drewN])⟩
                case measure => simp [intOf]; omega
              · have HS := Lib.hid (HMISS.out hvv)
                have hvb : (vl == vm) = false := by rw [beq_eq_false_iff_ne]; exact hvv
                clear HHIT HMISS
                go_wp2_with fail
                go_quiet (fail)
                go_wp2_with fail
                go_roundw
                case rel => exact ⟨a, t + 1, _, by rw [HQM.out]; omega, by rw [HQ.out]; omega, rfl, by go_num, HS.out, by first | rfl | (rw [World.drewN_drewN])⟩
                case measure => simp [intOf]; omega
            · have haq' : ¬ (a : Int) < (qm : Int) := by omega
              obtain rfl : a = qm := by omega
              have HK11 := Lib.hid (EntK.drewN HT10.out dq)
              clear hs
              go_wp2_with fail
              go_roundw
              case rel => exact ⟨j + 1, by omega, by go_num, HK11.out⟩
              case measure => simp [intOf]; omega
          · have htq' : ¬ (t : Int) < (q : Int) := by omega
            have hae := sub_end (by rw [HQ.out]; exact htq) (by rw [HQM.out]; exact ha) hs
            rw [HQM.out] at hae
            subst hae
            have HK11 := Lib.hid (EntK.drewN HT10.out dq)
            clear hs
            go_wp2_with fail
            go_roundw
            case rel => exact ⟨j + 1, by omega, by go_num, HK11.out⟩
            case measure => simp [intOf]; omega
      · have hge : ¬ (j : Int) < (q : Int) := by omega
        have HK := Lib.hid hK
        clear hK
        go_wp2_with fail
        refine (laws_alive _).mono ?_
        rintro e wz ⟨rfl, hbz⟩
        go_wp2_with fail
        go_ret
        exact ⟨rfl, below_next (HB4.out.trans (HK.out.2.1.mono HZ4.out)) hbz⟩

set_option maxRecDepth 100000 in
theorem lifted_FnDescendants (os : Os) (started : os.Started) (H : Type) (enc : TypeId × Value → H) :
    ReturnsInHanded {} Try.checked os 13 .any (Rows.fnDescendantsSpec.pre6 enc Try.prog Try.f13 Rows.fnDescendantsRow.domain false) (Rows.fnDescendantsSpec.post enc Try.prog Try.f13 false true false false) := by
  refine returnsInHanded_of_change (C := Try.checked) row_own started (by kernel_rfl) Try.func13
    (ChangeSpec.witness6 (enc := enc) (C := Try.checked) false ⟨#[], #[.slice none 0 0], []⟩ 8 (by kernel_rfl) (by kernel_rfl) (by kernel_rfl) (by kernel_rfl)) ?_
  intro W base args ds gs before hval0 hW hcnd _
  have hval : ∀ (j : Nat) t v, Try.f13.params[j]? = some t → args[j]? = some v → Value.okWide Try.prog W .any base t v := hval0
  have hW' := hW
  obtain ⟨p, q, hA0, hV, rfl, hfz, hnd⟩ := hW
  have hA : DataW.TrodAll enc Try.prog W 0 (fun _ => true) true Try.f13.params.toList args.toList ds p := hA0
  rw [Try.params13] at hA hval
  obtain ⟨v0, vs0, d0, ds0, p0, q0, hargs, rfl, rfl, h0, r0⟩ := trodAll_cons hA
  obtain ⟨rfl, rfl, rfl⟩ := trodAll_nil r0
  obtain rfl : args = #[v0] := by cases args; simp_all
  obtain ⟨rfl, rfl⟩ := trodVars_none hV
  have k0 := h0
  have lt0 : ∀ x ∈ p0, x.block < W.heap.size := by obtain ⟨m, hm⟩ := k0; exact DataW.trod_lt m _ _ _ hm
  have w0 := open_bytes (hval 0 41 v0 rfl rfl) h0
  clear hA0 hval0
  refine (walk_FnDescendants v0 W w0).mono fun e W' ⟨he, bel⟩ => ?_
  subst he
  exact ⟨_, rfl, _, _, _, [], _, [], hW', trodAll_mk1 (shut_bool Try.underlying4 _), (trodAll_cons_mk (Below.trod row_laidOut (by kernel_rfl) (of_decide_eq_true (by kernel_rfl)) k0 bel lt0) trodAll_mk0), rfl, bel.frame _, fun h => by cases h⟩

theorem over_FnDescendants : Rows.fnDescendantsRow.holds Try.pinned (OpenSpec.ofChange Rows.fnDescendantsSpec) :=
  OpenClaim.holds_of_wide 13 Try.f13 rfl rfl rfl rfl rfl rfl rfl ⟨rfl, rfl, rfl, rfl, rfl⟩ rfl rfl rfl rfl rfl (by kernel_rfl) Try.func13 (by kernel_rfl)
    (of_decide_eq_true (by kernel_rfl)) (by unfold Func.isWrapper; first | (rw [if_pos (by decide +kernel)]; kernel_rfl) | (rw [if_neg (by decide +kernel)]; exact ⟨rfl, rfl⟩))
    (fun os started H enc _ => lifted_FnDescendants os started H enc)

theorem FnDescendants_holds : Rows.FnDescendantsSaid := over_FnDescendants

end Go.Proofs.Ytpglfbjjmnaojaa

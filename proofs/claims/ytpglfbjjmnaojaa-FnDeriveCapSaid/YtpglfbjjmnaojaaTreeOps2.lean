/- RemoveCap of the program, RevokeCap of the reference and of the program. No condition beyond those written. -/
import Derived.Test.YtpglfbjjmnaojaaTreeOps
namespace Go.Proofs.Ytpglfbjjmnaojaa
open Go.RowKit
set_option linter.unusedVariables false

def OutI (B W1 : Nat) (w : World) (g c n b1 g' c' : Nat) (es os : List Ent) (wr : World) : Prop := EntO wr W1 (some ⟨g', 0, none⟩) n c' os ∧ EntK B w (some ⟨g, 0, none⟩) n c b1 es wr
section
variable {B W1 : Nat} {w wr : World} {g c n b1 g' c' : Nat} {es os : List Ent}
theorem OutI.set (h : OutI B W1 w g c n b1 g' c' es os wr) (hg : g < B) (hb : B ≤ g') (i d : Nat) (hi : i < n) (hd : d < 6) (e' : Ent) (v : Value) (he : (os.getD i E0).cells.set d v = e'.cells) :
    OutI B W1 w g c n b1 g' c' es (os.set i e') (wr.setCell ⟨g', i * 6 + d, none⟩ v) := ⟨h.1.set i d hi hd e' v he, h.2.setFar hg hb v⟩
theorem OutI.alloc (h : OutI B W1 w g c n b1 g' c' es os wr) (o : Obj) : OutI B W1 w g c n b1 g' c' es os (wr.alloc o) := ⟨h.1.alloc o, h.2.alloc o⟩
theorem OutS.i (h : OutS B W1 w g c n b1 g' c' es os wr) : OutI B W1 w g c n b1 g' c' es os wr := ⟨h.1.ento, h.2⟩
end
theorem EntO.some_ {w : World} {base n c : Nat} {A : Option Addr} {es : List Ent} (h : EntO w base A n c es) (hn : 0 < n) : ∃ g, A = some ⟨g, 0, none⟩ ∧ base ≤ g ∧ g < w.heap.size := by
  obtain ⟨g, h1, h2, h3, -⟩ := h.at_ hn
  exact ⟨g, h1, h2, h3⟩

set_option maxHeartbeats 4000000 in
theorem impl_RemoveCap_no (A : Option Addr) (n c b1 : Nat) (es : List Ent) (m : Int) (w : World) (h : EntO w b1 A n c es) (hn : n ≤ 2000000) (hl : liveB es m = false) :
    Calls Try.prog 33 #[.slice A n c, .int .i64 m] w (GivesE [] w) := by
  have hL := impl_alive A n c b1 es m w h hn
  rw [hl] at hL
  clear h hl
  go_enter Try.func33, Try.ntmps33
  go_wp2_with fail
  refine hL.mono ?_
  rintro e w1 ⟨rfl, hb1⟩
  have HB := Lib.hid hb1
  clear hb1 hL
  go_wp2_with fail
  go_ret
  exact ⟨_, 0, rfl, EntO.nil _ _ _ _ (by decide), HB.out⟩

set_option maxHeartbeats 8000000 in
theorem impl_RemoveCap_yes (A : Option Addr) (n c b1 : Nat) (es : List Ent) (m : Nat) (w : World) (h : EntO w b1 A n c es) (hn : n ≤ 2000000) (hl : liveB es m = true) :
    Calls Try.prog 33 #[.slice A n c, .int .i64 m] w (GivesE (removeE es m) w) := by
  have hlen := h.1
  obtain ⟨hv, ⟨m0, m1⟩, hg⟩ := liveB_iff.1 hl
  have hn30 := dValid_len hv
  obtain ⟨g, rfl, -, hgl, -⟩ := h.at_ (by omega)
  have hL := impl_alive (some ⟨g, 0, none⟩) n c b1 es m w h hn
  rw [hl] at hL
  have hK : EntK w.heap.size w (some ⟨g, 0, none⟩) n c b1 es w := ⟨h, Below.refl _ _, Nat.le_refl _⟩
  have HK := Lib.hid hK
  have HLEN := Lib.hid hlen
  have HV := Lib.hid hv
  have HLIVE := Lib.hid hl
  have hmn : m < n := by omega
  have hmn' : (m : Int) < (n : Int) := by omega
  have hm0' : (0 : Int) ≤ (m : Int) := by omega
  have hn30' : n ≤ 30 := by omega
  clear h hK hlen hl hg hn30 m0 m1 hv
  go_enter Try.func33, Try.ntmps33
  go_wp2_with fail
  refine hL.mono ?_
  rintro e w1 ⟨rfl, hb1⟩
  have hK1 := EntK.step hb1 ⟨HK.out, trivial⟩
  have hc := impl_clone (some ⟨g, 0, none⟩) n c b1 es w1 hK1.1 hn
  have HK1 := Lib.hid hK1
  have hws := hb1.size
  clear hL hb1 hK1
  go_wp2_with fail
  refine hc.mono ?_
  rintro e w2 ⟨⟨A', rfl, hO⟩, hB⟩
  obtain ⟨g', rfl, hbg', hgl2⟩ := hO.some_ (by omega)
  have hK2 := EntK.step hB ⟨HK1.out, trivial⟩
  have hS : OutI w.heap.size w1.heap.size w g c n b1 g' n es es w2 := ⟨hO, hK2⟩
  have hwg : w.heap.size ≤ g' := by omega
  obtain ⟨x, hx, -, -, hc1, hf1⟩ := hO.at_ (by omega)
  injection hx with hx
  injection hx with hx
  subst hx
  obtain ⟨a0, a1, a2, a3, a4, a5⟩ := hc1 m hmn
  have hset := hS.set hgl hwg m 5 hmn (by omega) { es.getD m E0 with g := true } (.bool true) rfl
  rw [remS_zero es m (by have := HLEN.out; omega)] at hset
  have HS := Lib.hid hset
  clear hO hB hK2 HK1 hc hS hset hc1
  go_wp2_with fail
  clear a0 a1 a2 a3 a4 a5 hf1
  go_loopw [20] (fun i wr => ∃ j : Nat, j ≤ n ∧ i = .int .i64 j ∧ OutI w.heap.size w1.heap.size w g c n b1 g' n es (remS es m j true) wr) (fun i _ => n - (intOf i).toNat)
  case atStart => exact ⟨0, by omega, rfl, HS.out⟩
  case round =>
    clear HS
    obtain ⟨j, hj, rfl, hS⟩ := hrel
    obtain ⟨x, hx, -, hgl', hc1, hf1⟩ := hS.1.at_ (by omega)
    injection hx with hx
    injection hx with hx
    subst hx
    by_cases hlt : j < n
    · have hjl : j < es.length := by have := HLEN.out; omega
      obtain ⟨k, o, r, b, p, q, hx⟩ : ∃ k o r b p q, es.getD j E0 = ⟨k, o, r, b, p, q⟩ := ⟨_, _, _, _, _, _, rfl⟩
      obtain ⟨k', o', r', b', P, q', hxm⟩ : ∃ k o r b p q, es.getD m E0 = ⟨k, o, r, b, p, q⟩ := ⟨_, _, _, _, _, _, rfl⟩
      obtain ⟨a0, a1, a2, a3, a4, a5⟩ := hS.2.cells hlt hx
      obtain ⟨y0, y1, y2, y3, y4, y5⟩ := hS.2.cells hmn hxm
      obtain ⟨z0, z1, z2, z3, z4, z5⟩ := hc1 j hlt
      have hgl3 := Nat.lt_of_lt_of_le hgl hS.2.2.2
      have hSA := hS.alloc (.cells #[.int .i64 k, .int .i64 o, .int .i64 r, .int .i64 b, .int .i64 p, .bool q] 48)
      have hset := (hS.set hgl hwg j 4 hlt (by omega) { (remS es m j true).getD j E0 with p := (entAt es m).p } (.int .i64 P) (by rw [entAt_nat, hxm]; rfl)).alloc (.cells #[.int .i64 k, .int .i64 o, .int .i64 r, .int .i64 b, .int .i64 p, .bool q] 48)
      have HS := Lib.hid hSA
      have HSET := Lib.hid hset
      have HX := Lib.hid hx
      have HJ := Lib.hid hjl
      have hlt' : (j : Int) < (n : Int) := by omega
      have hj0 : (0 : Int) ≤ (j : Int) := by omega
      generalize ((remS es m j true).getD j E0).p = v4 at z4
      clear hS hSA hset hx hxm hc1 hjl z0 z1 z2 z3 z5
      cases h2 : (p == (m : Int))
      · go_wp2_with fail
        go_roundw
        case rel => exact ⟨j + 1, by omega, by go_num, by rw [remS_no (by rw [HX.out]; show (p == (m : Int) && _) = false; rw [h2]; rfl)]; exact HS.out⟩
        case measure => simp [intOf]; omega
      · cases q
        · go_wp2_with fail
          go_roundw
          case rel => exact ⟨j + 1, by omega, by go_num, by rw [remS_yes HJ.out (by rw [HX.out]; show (p == (m : Int) && !false) = true; rw [h2]; rfl)]; exact HSET.out⟩
          case measure => simp [intOf]; omega
        · go_wp2_with fail
          go_roundw
          case rel => exact ⟨j + 1, by omega, by go_num, by rw [remS_no (by rw [HX.out]; show (p == (m : Int) && !true) = false; rw [h2]; rfl)]; exact HS.out⟩
          case measure => simp [intOf]; omega
    · have hge : ¬ (j : Int) < (n : Int) := by omega
      have hjn : j = n := by omega
      subst hjn
      have hend := remS_end (es := es) (m := m)
      rw [HLEN.out] at hend
      rw [hend] at hS
      have HS := Lib.hid hS
      have HLR := Lib.hid (show (removeE es m).length = j by rw [removeE_len, HLEN.out])
      clear hS hc1 hend
      go_wp2_with fail
      go_ret
      have hL := HLR.out
      exact ⟨some ⟨g', 0, none⟩, j, by rw [hL]; rfl, by rw [hL]; exact HS.out.1.more hws, HS.out.2.2.1⟩

set_option maxHeartbeats 4000000 in
theorem spec_RevokeCap_no (A : Option Addr) (n c b1 : Nat) (es : List Ent) (m : Int) (w : World) (h : EntO w b1 A n c es) (hn : n ≤ 2000000) (hl : liveB es m = false) :
    Calls Try.prog 37 #[.slice A n c, .int .i64 m] w (GivesOE [] w) := by
  have hL := spec_l5Live A n c b1 es m w h hn
  rw [hl] at hL
  clear h hl
  go_enter Try.func37, Try.ntmps37
  go_wp2_with fail
  refine hL.mono ?_
  rintro e w1 ⟨rfl, hb1⟩
  have HB := Lib.hid hb1
  clear hb1 hL
  go_wp2_with fail
  go_ret
  exact ⟨_, 0, rfl, OwnE.more (es := []) (World.ownsRow_lit (base := w1.heap.size) (e := 48) (size := 6) w1 #[] 0 (by simp) (by decide) rfl) HB.out.size, below_next HB.out (below_al (Below.refl _ _) _)⟩

/-- The list of the numbers stays beside. -/
def OutL (B W1 : Nat) (w : World) (g c n b1 g' c' : Nat) (es os : List Ent) (D : Option Addr) (q d b2 : Nat) (L : List Int) (wr : World) : Prop := OutI B W1 w g c n b1 g' c' es os wr ∧ IntO wr b2 D q d L
theorem OutL.set {B W1 : Nat} {w wr : World} {g c n b1 g' c' : Nat} {es os : List Ent} {D : Option Addr} {q d b2 : Nat} {L : List Int} (h : OutL B W1 w g c n b1 g' c' es os D q d b2 L wr) (hg : g < B) (hb : B ≤ g') (hD : ∀ x, rowOf D q = some x → x ≠ g') (i k : Nat) (hi : i < n) (hk : k < 6) (e' : Ent) (v : Value) (he : (os.getD i E0).cells.set k v = e'.cells) :
    OutL B W1 w g c n b1 g' c' es (os.set i e') D q d b2 L (wr.setCell ⟨g', i * 6 + k, none⟩ v) :=
  ⟨h.1.set hg hb i k hi hk e' v he, RowO.keepAt h.2 fun x hq hx _ _ => Below.heap_setCell wr _ v x (by
    subst hx
    exact hD x (rowOf_pos hq))⟩

def OutLS (B W1 : Nat) (w : World) (g c n b1 g' c' : Nat) (es os : List Ent) (D : Option Addr) (q d b2 : Nat) (L : List Int) (wr : World) : Prop := OutS B W1 w g c n b1 g' c' es os wr ∧ IntO wr b2 D q d L
theorem OutLS.set {B W1 : Nat} {w wr : World} {g c n b1 g' c' : Nat} {es os : List Ent} {D : Option Addr} {q d b2 : Nat} {L : List Int} (h : OutLS B W1 w g c n b1 g' c' es os D q d b2 L wr) (hg : g < B) (hb : B ≤ g') (hD : ∀ x, rowOf D q = some x → x ≠ g') (i k : Nat) (hi : i < n) (hk : k < 6) (e' : Ent) (v : Value) (he : (os.getD i E0).cells.set k v = e'.cells) :
    OutLS B W1 w g c n b1 g' c' es (os.set i e') D q d b2 L (wr.setCell ⟨g', i * 6 + k, none⟩ v) :=
  ⟨h.1.set hg hb i k hi hk e' v he, RowO.keepAt h.2 fun x hq hx _ _ => Below.heap_setCell wr _ v x (by
    subst hx
    exact hD x (rowOf_pos hq))⟩
theorem desc_at {es : List Ent} {m : Int} {k : Nat} (hk : k < (desc es m).length) : ∃ i : Nat, (desc es m).getD k 0 = (i : Int) ∧ i < es.length := by
  have hm := mem_desc.1 (List.getElem_mem hk)
  refine ⟨((desc es m)[k]).toNat, ?_, by omega⟩
  rw [show (desc es m).getD k 0 = (desc es m)[k] by simp [List.getD, hk]]
  omega

set_option maxHeartbeats 8000000 in
theorem spec_RevokeCap_yes (A : Option Addr) (n c b1 : Nat) (es : List Ent) (m : Nat) (w : World) (h : EntO w b1 A n c es) (hn : n ≤ 2000000) (hl : liveB es m = true) :
    Calls Try.prog 37 #[.slice A n c, .int .i64 m] w (GivesOE (revokeE es m) w) := by
  have hlen := h.1
  obtain ⟨hv, ⟨m0, m1⟩, hg⟩ := liveB_iff.1 hl
  have hn30 := dValid_len hv
  obtain ⟨g, rfl, -, hgl, -⟩ := h.at_ (by omega)
  have hL := spec_l5Live (some ⟨g, 0, none⟩) n c b1 es m w h hn
  rw [hl] at hL
  have hK : EntK w.heap.size w (some ⟨g, 0, none⟩) n c b1 es w := ⟨h, Below.refl _ _, Nat.le_refl _⟩
  have HK := Lib.hid hK
  have HLEN := Lib.hid hlen
  have HV := Lib.hid hv
  have HLIVE := Lib.hid hl
  have hmn : m < n := by omega
  have hmn' : (m : Int) < (n : Int) := by omega
  have hm0' : (0 : Int) ≤ (m : Int) := by omega
  have hn30' : n ≤ 30 := by omega
  clear h hK hlen hl hg hn30 m0 m1 hv
  obtain ⟨i0, hi, hz0, hz1, hz2⟩ := info_parts entry_info
  go_enter Try.func37, Try.ntmps37
  go_wp2_with fail
  refine hL.mono ?_
  rintro e w1 ⟨rfl, hb1⟩
  have hK1 := EntK.step hb1 ⟨HK.out, trivial⟩
  have HSRC := Lib.hid hK1.1.source
  have HK1 := Lib.hid hK1
  have hgl1 := Nat.lt_of_lt_of_le hgl hb1.size
  have hws := hb1.size
  clear hL hb1 hK1
  go_wp2_with (at_builtin; refine wpList_append_own _ rfl _ _ 25 rfl w1.heap.size 48 i0 _ 6 48 Try.underlying25 hi hz0 hz1 hz2 rfl (by decide) _ _ _ rfl (World.ownsRow_made w1 #[] 0 (Nat.le_refl _) (Nat.zero_le _) (by simp)) ⟨g, 0, none⟩ n c (flat es) rfl ?qc1 ?qc2 ?qc3 ?qc4 ?qc5 ?qc6 ?_)
  case qc1 => rw [flat_len, HLEN.out]
  case qc2 =>
    intro j u hj
    rw [World.cell?_alloc_lt _ _ _ (by rw [block_of_add]; exact hgl1)]
    exact HSRC.out j u hj
  case qc3 => exact flat_one es
  case qc4 => simp only [maxLen]; omega
  case qc5 => omega
  case qc6 => simp
  intro v' w2 hown hgrow _
  obtain ⟨g', c', rfl, hbg', hO, hB⟩ := copied (n := n) (show 0 < n by omega) hown hgrow
  have hB2 := below_next HK1.out.2.1 hB
  have hK2 : EntK w.heap.size w (some ⟨g, 0, none⟩) n c b1 es w2 := ⟨HK1.out.1.below hB, hB2, hB2.size⟩
  have hwg : w.heap.size ≤ g' := by omega
  have hd := spec_Descendants (some ⟨g, 0, none⟩) n c b1 es m w2 hK2.1 hn
  have hd' : Calls Try.prog 26 #[.slice (some ⟨g, 0, none⟩) n c, .int .i64 m] w2 (GivesIO (desc es m) w2) := by
    have := hd
    unfold descL at this
    rwa [if_pos HLIVE.out] at this
  have hS : OutS w.heap.size w1.heap.size w g c n b1 g' c' es es w2 := ⟨hO, hK2⟩
  have HS := Lib.hid hS
  have HG2 := Lib.hid (show g' < w2.heap.size by obtain ⟨x, hx, -, hl⟩ := hO.ento.some_ (by omega); injection hx with hx; injection hx with hx; omega)
  clear hown hgrow hO hB hK2 hB2 HSRC HK1 hi hz0 hz1 hz2 hd hS
  go_wp2_with fail
  refine hd'.mono ?_
  rintro e w3 ⟨D, d, rfl, hI3, hb3⟩
  have hO3 := HS.out.1.below hb3
  have hK3 := EntK.step hb3 ⟨HS.out.2, trivial⟩
  have hD := hI3.row
  have HD := Lib.hid (show ∀ x, rowOf D (desc es m).length = some x → x ≠ g' from fun x hx => by have := (hD x hx).1; have := HG2.out; omega)
  have hS3 : OutLS w.heap.size w1.heap.size w g c n b1 g' c' es es D (desc es m).length d w2.heap.size (desc es m) w3 := ⟨⟨hO3, hK3⟩, hI3⟩
  have HS3 := Lib.hid hS3
  have HAT := Lib.hid (fun k hk => desc_at (es := es) (m := m) (k := k) hk)
  have HREV := Lib.hid (show goneE es ((desc es m).take (desc es m).length) = revokeE es m by rw [List.take_length]; rfl)
  have hle : (desc es m).length ≤ 30 := by have := desc_len_le es m; have := HLEN.out; omega
  generalize desc es m = L at *
  generalize hLL : L.length = q at *
  have HLL := Lib.hid hLL
  clear hd' hb3 hO3 hK3 hI3 hS3 HS hLL hD
  go_wp2_with fail
  go_loopw [7] (fun i wr => ∃ k : Nat, k ≤ q ∧ i = .int .i64 k ∧ OutLS w.heap.size w1.heap.size w g c n b1 g' c' es (goneE es (L.take k)) D q d w2.heap.size L wr) (fun i _ => q - (intOf i).toNat)
  case atStart => exact ⟨0, by omega, rfl, by rw [List.take_zero, goneE_nil]; exact HS3.out⟩
  case round =>
    clear HS3
    obtain ⟨k, hk, rfl, hS⟩ := hrel
    by_cases hlt : k < q
    · obtain ⟨i, hLi, hil⟩ := HAT.out k hlt
      have hin : i < n := by have := HLEN.out; omega
      obtain ⟨x, hx, -, hgl', hc1, hf1⟩ := hS.1.1.ento.at_ (by omega)
      injection hx with hx
      injection hx with hx
      subst hx
      obtain ⟨a0, a1, a2, a3, a4, a5⟩ := hc1 i hin
      obtain ⟨gD, rfl, -, hgD, hcD, -⟩ := hS.2.at_ (by omega)
      have cD := hcD k hlt
      rw [hLi] at cD
      have hset := hS.set hgl hwg HD.out i 5 hin (by omega) { (goneE es (L.take k)).getD i E0 with g := true } (.bool true) rfl
      rw [← gone_step (by rw [HLL.out]; exact hlt) hLi hil] at hset
      have HSET := Lib.hid hset
      have hlt' : (k : Int) < (q : Int) := by omega
      have hk0 : (0 : Int) ≤ (k : Int) := by omega
      have hin' : (i : Int) < (n : Int) := by omega
      have hi0 : (0 : Int) ≤ (i : Int) := by omega
      generalize (goneE es (L.take k)).getD i E0 = E at *
      clear hS hset hc1 hcD hLi
      go_wp2_with fail
      go_roundw
      case rel => exact ⟨k + 1, by omega, by go_num, HSET.out⟩
      case measure => simp [intOf]; omega
    · have hge : ¬ (k : Int) < (q : Int) := by omega
      have hkn : k = q := by omega
      subst hkn
      rw [HREV.out] at hS
      have HS := Lib.hid hS
      have HLR := Lib.hid (show (revokeE es m).length = n by rw [revokeE_len, HLEN.out])
      clear hS
      go_wp2_with fail
      go_ret
      have hL := HLR.out
      exact ⟨some ⟨g', 0, none⟩, c', by rw [hL]; rfl, by rw [hL]; exact HS.out.1.1.more hws, HS.out.1.2.2.1⟩

set_option maxHeartbeats 8000000 in
theorem impl_removed (g : Nat) (n c b1 : Nat) (es : List Ent) (D : Option Addr) (q d b2 : Nat) (L : List Int) (w : World) (h : EntO w b1 (some ⟨g, 0, none⟩) n c es) (hn : n ≤ 2000000) (h0 : 0 < n) (hI : IntO w b2 D q d L) (hq : q ≤ 1000000)
    (hat : ∀ k, k < q → ∃ i : Nat, L.getD k 0 = (i : Int) ∧ i < n) :
    Calls Try.prog 62 #[.slice (some ⟨g, 0, none⟩) n c, .slice D q d] w (GivesE (goneE es L) w) := by
  have hK : EntK w.heap.size w (some ⟨g, 0, none⟩) n c b1 es w := ⟨h, Below.refl _ _, Nat.le_refl _⟩
  have hc := impl_clone (some ⟨g, 0, none⟩) n c b1 es w h hn
  have hgl : g < w.heap.size := by obtain ⟨x, hx, -, hl⟩ := h.some_ h0; injection hx with hx; injection hx with hx; omega
  have HK := Lib.hid hK
  have HI := Lib.hid hI
  have HLEN := Lib.hid h.1
  have HAT := Lib.hid hat
  clear h hI hK hat
  go_enter Try.func62, Try.ntmps62
  go_wp2_with fail
  refine hc.mono ?_
  rintro e w2 ⟨⟨A', rfl, hO⟩, hB⟩
  obtain ⟨g', rfl, hbg', hgl2⟩ := hO.some_ h0
  have hK2 := EntK.step hB ⟨HK.out, trivial⟩
  have hI2 := HI.out.below hB
  have HS := Lib.hid (show OutL w.heap.size w.heap.size w g c n b1 g' n es es D q d b2 L w2 from ⟨⟨hO, hK2⟩, hI2⟩)
  have HD := Lib.hid (show ∀ x, rowOf D q = some x → x ≠ g' from fun x hx => by have := (HI.out.row x hx).2; omega)
  have HLL := Lib.hid (show L.length = q from hI2.len)
  have HREV := Lib.hid (show goneE es (L.take q) = goneE es L by rw [List.take_of_length_le (by have := HLL.out; omega)])
  clear hc hO hB hK2 hI2 HK HI
  go_wp2_with fail
  go_loopw [12] (fun i wr => ∃ k : Nat, k ≤ q ∧ i = .int .i64 k ∧ OutL w.heap.size w.heap.size w g c n b1 g' n es (goneE es (L.take k)) D q d b2 L wr) (fun i _ => q - (intOf i).toNat)
  case atStart => exact ⟨0, by omega, rfl, by rw [List.take_zero, goneE_nil]; exact HS.out⟩
  case round =>
    clear HS
    obtain ⟨k, hk, rfl, hS⟩ := hrel
    by_cases hlt : k < q
    · obtain ⟨i, hLi, hin⟩ := HAT.out k hlt
      obtain ⟨x, hx, -, hgl', hc1, hf1⟩ := hS.1.1.at_ (by omega)
      injection hx with hx
      injection hx with hx
      subst hx
      obtain ⟨a0, a1, a2, a3, a4, a5⟩ := hc1 i hin
      obtain ⟨gD, rfl, -, hgD, hcD, -⟩ := hS.2.at_ (by omega)
      have cD := hcD k hlt
      rw [hLi] at cD
      have hset := hS.set hgl hbg' HD.out i 5 hin (by omega) { (goneE es (L.take k)).getD i E0 with g := true } (.bool true) rfl
      rw [← gone_step (by rw [HLL.out]; exact hlt) hLi (by rw [HLEN.out]; exact hin)] at hset
      have HSET := Lib.hid hset
      have hlt' : (k : Int) < (q : Int) := by omega
      have hk0 : (0 : Int) ≤ (k : Int) := by omega
      have hin' : (i : Int) < (n : Int) := by omega
      have hi0 : (0 : Int) ≤ (i : Int) := by omega
      generalize (goneE es (L.take k)).getD i E0 = E at *
      clear hS hset hc1 hcD hLi
      go_wp2_with fail
      go_roundw
      case rel => exact ⟨k + 1, by omega, by go_num, HSET.out⟩
      case measure => simp [intOf]; omega
    · have hge : ¬ (k : Int) < (q : Int) := by omega
      have hkn : k = q := by omega
      subst hkn
      rw [HREV.out] at hS
      have HS := Lib.hid hS
      have HLR := Lib.hid (show (goneE es L).length = n by rw [goneE_len, HLEN.out])
      clear hS
      go_wp2_with fail
      go_ret
      have hL := HLR.out
      exact ⟨some ⟨g', 0, none⟩, n, by rw [hL]; rfl, by rw [hL]; exact HS.out.1.1, HS.out.1.2.2.1⟩

set_option maxHeartbeats 4000000 in
theorem impl_RevokeCap_no (A : Option Addr) (n c b1 : Nat) (es : List Ent) (m : Int) (w : World) (h : EntO w b1 A n c es) (hn : n ≤ 2000000) (hl : liveB es m = false) :
    Calls Try.prog 38 #[.slice A n c, .int .i64 m] w (GivesE [] w) := by
  have hL := impl_alive A n c b1 es m w h hn
  rw [hl] at hL
  clear h hl
  go_enter Try.func38, Try.ntmps38
  go_wp2_with fail
  refine hL.mono ?_
  rintro e w1 ⟨rfl, hb1⟩
  have HB := Lib.hid hb1
  clear hb1 hL
  go_wp2_with fail
  go_ret
  exact ⟨_, 0, rfl, EntO.nil _ _ _ _ (by decide), HB.out⟩

set_option maxHeartbeats 8000000 in
theorem impl_RevokeCap_yes (A : Option Addr) (n c b1 : Nat) (es : List Ent) (m : Nat) (w : World) (h : EntO w b1 A n c es) (hn : n ≤ 2000000) (hl : liveB es m = true) :
    Calls Try.prog 38 #[.slice A n c, .int .i64 m] w (GivesE (revokeE es m) w) := by
  have hlen := h.1
  obtain ⟨hv, ⟨m0, m1⟩, hg⟩ := liveB_iff.1 hl
  have hn30 := dValid_len hv
  obtain ⟨g, rfl, -, hgl, -⟩ := h.at_ (by omega)
  have hL := impl_alive (some ⟨g, 0, none⟩) n c b1 es m w h hn
  rw [hl] at hL
  have hK : EntK w.heap.size w (some ⟨g, 0, none⟩) n c b1 es w := ⟨h, Below.refl _ _, Nat.le_refl _⟩
  have HK := Lib.hid hK
  have HLEN := Lib.hid hlen
  have HV := Lib.hid hv
  have HLIVE := Lib.hid hl
  have hmn : m < n := by omega
  have hmn' : (m : Int) < (n : Int) := by omega
  have hm0' : (0 : Int) ≤ (m : Int) := by omega
  have hn30' : n ≤ 30 := by omega
  clear h hK hlen hl hg hn30 m0 m1 hv
  go_enter Try.func38, Try.ntmps38
  go_wp2_with fail
  refine hL.mono ?_
  rintro e w1 ⟨rfl, hb1⟩
  have hK1 := EntK.step hb1 ⟨HK.out, trivial⟩
  have hd := impl_descendants (some ⟨g, 0, none⟩) n c b1 es m w1 hK1.1 hn HLIVE.out
  have HK1 := Lib.hid hK1
  clear hL hb1 hK1 HK
  go_wp2_with fail
  refine hd.mono ?_
  rintro e w2 ⟨D, d, rfl, hI, hb2⟩
  have hK2 := EntK.step hb2 ⟨HK1.out, trivial⟩
  have hle : (desc es m).length ≤ 30 := by have := desc_len_le es m; have := HLEN.out; omega
  have hr := impl_removed g n c b1 es D (desc es m).length d _ (desc es m) w2 hK2.1 hn (by omega) hI (by omega) (fun k hk => by
    obtain ⟨i, h1, h2⟩ := desc_at hk
    exact ⟨i, h1, by have := HLEN.out; omega⟩)
  have HK2 := Lib.hid hK2
  clear hd hI hb2 hK2 HK1
  go_wp2_with fail
  refine hr.mono ?_
  rintro e w3 ⟨X, x, rfl, hX, hb3⟩
  have HX := Lib.hid hX
  have HB3 := Lib.hid hb3
  clear hr hX hb3
  go_wp2_with fail
  go_ret
  exact ⟨X, x, rfl, HX.out.more HK2.out.2.2, below_next HK2.out.2.1 HB3.out⟩

theorem live_nat {es : List Ent} {m : Int} (hl : liveB es m = true) : ∃ t : Nat, m = t := ⟨m.toNat, by have := (liveB_iff.1 hl).2.1.1; omega⟩
theorem spec_RemoveCap (A : Option Addr) (n c b1 : Nat) (es : List Ent) (m : Int) (w : World) (h : EntO w b1 A n c es) (hn : n ≤ 2000000) :
    Calls Try.prog 32 #[.slice A n c, .int .i64 m] w (GivesOE (remL es m) w) := by
  unfold remL
  cases hl : liveB es m
  · exact spec_RemoveCap_no A n c b1 es m w h hn hl
  · obtain ⟨t, rfl⟩ := live_nat hl
    exact spec_RemoveCap_yes A n c b1 es t w h hn hl
theorem spec_RevokeCap (A : Option Addr) (n c b1 : Nat) (es : List Ent) (m : Int) (w : World) (h : EntO w b1 A n c es) (hn : n ≤ 2000000) :
    Calls Try.prog 37 #[.slice A n c, .int .i64 m] w (GivesOE (revL es m) w) := by
  unfold revL
  cases hl : liveB es m
  · exact spec_RevokeCap_no A n c b1 es m w h hn hl
  · obtain ⟨t, rfl⟩ := live_nat hl
    exact spec_RevokeCap_yes A n c b1 es t w h hn hl
theorem impl_RemoveCap (A : Option Addr) (n c b1 : Nat) (es : List Ent) (m : Int) (w : World) (h : EntO w b1 A n c es) (hn : n ≤ 2000000) :
    Calls Try.prog 33 #[.slice A n c, .int .i64 m] w (GivesE (remL es m) w) := by
  unfold remL
  cases hl : liveB es m
  · exact impl_RemoveCap_no A n c b1 es m w h hn hl
  · obtain ⟨t, rfl⟩ := live_nat hl
    exact impl_RemoveCap_yes A n c b1 es t w h hn hl
theorem impl_RevokeCap (A : Option Addr) (n c b1 : Nat) (es : List Ent) (m : Int) (w : World) (h : EntO w b1 A n c es) (hn : n ≤ 2000000) :
    Calls Try.prog 38 #[.slice A n c, .int .i64 m] w (GivesE (revL es m) w) := by
  unfold revL
  cases hl : liveB es m
  · exact impl_RevokeCap_no A n c b1 es m w h hn hl
  · obtain ⟨t, rfl⟩ := live_nat hl
    exact impl_RevokeCap_yes A n c b1 es t w h hn hl
theorem spec_RemoveCap_e (A : Option Addr) (n c b1 : Nat) (es : List Ent) (m : Int) (w : World) (h : EntO w b1 A n c es) (hn : n ≤ 2000000) :
    Calls Try.prog 32 #[.slice A n c, .int .i64 m] w (GivesE (remL es m) w) := (spec_RemoveCap A n c b1 es m w h hn).mono fun _ _ h => h.e
theorem spec_RevokeCap_e (A : Option Addr) (n c b1 : Nat) (es : List Ent) (m : Int) (w : World) (h : EntO w b1 A n c es) (hn : n ≤ 2000000) :
    Calls Try.prog 37 #[.slice A n c, .int .i64 m] w (GivesE (revL es m) w) := (spec_RevokeCap A n c b1 es m w h hn).mono fun _ _ h => h.e

end Go.Proofs.Ytpglfbjjmnaojaa

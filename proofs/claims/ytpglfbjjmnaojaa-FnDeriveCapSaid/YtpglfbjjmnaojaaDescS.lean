/- The reference's Descendants. No condition beyond those written. -/
import Derived.Test.YtpglfbjjmnaojaaAlive
import Derived.Test.YtpglfbjjmnaojaaBelow
import Derived.Test.YtpglfbjjmnaojaaClone
import Derived.Laws.AppendOwn
namespace Go.Proofs.Ytpglfbjjmnaojaa
open Go.RowKit
set_option linter.unusedVariables false

theorem int_info : (Try.prog.info? 3).map (fun i => (i.zero, i.size, i.bytes)) = some (some (.int .i64 0), 1, 8) := by kernel_rfl
theorem own_form_i {w : World} {base : Nat} {v : Value} {n : Nat} {vs : List Value} (h : w.ownsRow base 3 1 v n vs) : ∃ A c, v = .slice A n c := by
  rcases h.2 with ⟨rfl, rfl⟩ | ⟨g, cap, cur, rfl, _⟩
  · exact ⟨_, _, rfl⟩
  · exact ⟨_, _, rfl⟩

theorem wrap_id {x : Int} (h1 : -9223372036854775808 ≤ x) (h2 : x ≤ 9223372036854775807) : wrap64 x = x := by
  unfold wrap64
  omega

/-- A list grown by an append to another block stays. -/
theorem EntK.grown {B n c b1 g : Nat} {w0 w w' : World} {es : List Ent} {ob : Option Nat} (h : EntK B w0 (some ⟨g, 0, none⟩) n c b1 es w) (hg : w.grownBy w' ob) (hgB : g < B) (hob : ∀ x, ob = some x → B ≤ x) : EntK B w0 (some ⟨g, 0, none⟩) n c b1 es w' := by
  obtain ⟨hE, hB, hs⟩ := h
  refine ⟨⟨hE.1, hE.2.1, hE.2.2.1, fun hn => ?_⟩, hB.grown hg hs hob, Nat.le_trans hs hg.size⟩
  obtain ⟨x, cur, hA, hb, hx, ht⟩ := hE.2.2.2 hn
  injection hA with hA
  injection hA with hA
  subst hA
  exact ⟨g, cur, rfl, hb, (hg.block g (by omega) (fun e => by have := hob g e.symm; omega)).trans hx, ht⟩

/-- What Descendants answers. -/
def descL (es : List Ent) (m : Int) : List Int := if liveB es m then desc es m else []
def GivesI (l : List Int) (w : World) (e : Ending) (w' : World) : Prop := ∃ (A : Option Addr) (c : Nat), e = .returned (.slice A l.length c) ∧ OwnI w' w.heap.size A l.length c l ∧ Below w.heap.size w w'

set_option maxHeartbeats 4000000 in
theorem spec_Descendants_no (A : Option Addr) (n c b1 : Nat) (es : List Ent) (m : Int) (w : World) (h : EntO w b1 A n c es) (hn : n ≤ 2000000) (hl : liveB es m = false) :
    Calls Try.prog 26 #[.slice A n c, .int .i64 m] w (GivesI [] w) := by
  have hK : EntK w.heap.size w A n c b1 es (w.alloc (.cells #[] 3)) := EntK.alloc ⟨h, Below.refl _ _, Nat.le_refl _⟩ _
  have hL := spec_l5Live A n c b1 es m (w.alloc (.cells #[] 3)) hK.1 hn
  rw [hl] at hL
  have hO : OwnI (w.alloc (.cells #[] 3)) w.heap.size (some ⟨w.heap.size, 0, none⟩) 0 0 [] := World.ownsRow_lit (base := w.heap.size) (e := 3) (size := 1) w #[] 0 (by simp) (by decide) rfl
  have HK := Lib.hid hK
  have HO := Lib.hid hO
  clear h hK hO
  go_enter Try.func26, Try.ntmps26
  go_wp2_with fail
  generalize wrap64 (m + 1) = x
  go_loopw [5, 6] (fun ov i wr => ov = .slice (some ⟨w.heap.size, 0, none⟩) 0 0 ∧ i = .int .i64 x ∧ wr = w.alloc (.cells #[] 3)) (fun _ _ _ => 0)
  case atStart => exact ⟨rfl, rfl, rfl⟩
  case round =>
    obtain ⟨rfl, rfl, rfl⟩ := hrel
    by_cases hlt : x < (n : Int)
    · go_wp2_with fail
      refine hL.mono ?_
      rintro e w1 ⟨rfl, hb1⟩
      go_wp2_with fail
      go_ret
      exact ⟨_, 0, rfl, HO.out.below hb1, HK.out.2.1.trans (hb1.mono HK.out.2.2)⟩
    · go_wp2_with fail
      go_ret
      exact ⟨_, 0, rfl, HO.out, HK.out.2.1⟩

set_option maxHeartbeats 8000000 in
theorem spec_Descendants_yes (A : Option Addr) (n c b1 : Nat) (es : List Ent) (m : Nat) (w : World) (h : EntO w b1 A n c es) (hn : n ≤ 2000000) (hl : liveB es m = true) :
    Calls Try.prog 26 #[.slice A n c, .int .i64 m] w (GivesI (desc es m) w) := by
  have hlen := h.1
  obtain ⟨hv, ⟨m0, m1⟩, hg⟩ := liveB_iff.1 hl
  have hn30 := dValid_len hv
  obtain ⟨g, rfl, -, hgl, -⟩ := h.at_ (by omega)
  have hK : EntK w.heap.size w (some ⟨g, 0, none⟩) n c b1 es (w.alloc (.cells #[] 3)) := EntK.alloc ⟨h, Below.refl _ _, Nat.le_refl _⟩ _
  have hL := Lib.hid (fun W (h : EntO W b1 (some ⟨g, 0, none⟩) n c es) => hl ▸ spec_l5Live (some ⟨g, 0, none⟩) n c b1 es m W h hn)
  have hBl := Lib.hid (fun W (h : EntO W b1 (some ⟨g, 0, none⟩) n c es) (j : Nat) (hj : j < n) => spec_l5Below (some ⟨g, 0, none⟩) n c b1 es j m W h hn hv hj (by omega))
  have hO : OwnI (w.alloc (.cells #[] 3)) w.heap.size (some ⟨w.heap.size, 0, none⟩) 0 0 [] := World.ownsRow_lit (base := w.heap.size) (e := 3) (size := 1) w #[] 0 (by simp) (by decide) rfl
  obtain ⟨i0, hi, hz0, hz1, hz2⟩ := info_parts int_info
  have HI0 := Lib.hid (And.intro hi (And.intro hz0 (And.intro hz1 hz2)))
  have HK := Lib.hid hK
  have HO := Lib.hid hO
  have HLEN := Lib.hid hlen
  have hmn : m < n := by omega
  have hn30' : n ≤ 30 := by omega
  have hmw : wrap64 ((m : Int) + 1) = (m : Int) + 1 := wrap_id (by omega) (by omega)
  clear hi hz0 hz1 hz2 h hK hO m0 m1 hg hl hlen
  go_enter Try.func26, Try.ntmps26
  go_wp2_with fail
  go_loopw [5, 6] (fun ov i wr => ∃ (j : Nat) (D : Option Addr) (d : Nat), m < j ∧ j ≤ n ∧ i = .int .i64 j ∧ ov = .slice D (descTo es m j).length d ∧ OwnI wr w.heap.size D (descTo es m j).length d (descTo es m j) ∧ EntK w.heap.size w (some ⟨g, 0, none⟩) n c b1 es wr) (fun _ i _ => n - (intOf i).toNat)
  case atStart =>
    have e0 : descTo es m (m + 1) = [] := descTo_small (by omega)
    refine ⟨m + 1, _, 0, by omega, by omega, by first | rfl | simp [hmw], by rw [e0]; rfl, by rw [e0]; exact HO.out, HK.out⟩
  case round =>
    clear HK HO hmw
    obtain ⟨j, D, d, hmj, hj, rfl, rfl, hO, hK⟩ := hrel
    obtain ⟨hi, hz0, hz1, hz2⟩ := HI0.out
    by_cases hlt : j < n
    · have hlt' : (j : Int) < (n : Int) := by omega
      have hj0 : (0 : Int) ≤ (j : Int) := by omega
      have hlv := hL.out _ hK.1
      have hD := descTo_len es m j
      have HS : Hid (descTo es m (j + 1) = descTo es m j ++ if below es m j then [(j : Int)] else []) := by
        show _ = _
        rw [descTo_succ]
        simp [hmj]
      have HOO := Lib.hid hO
      have HKK := Lib.hid hK
      clear hO hK
      generalize hds : descTo es m j = ds at *
      generalize hdl : ds.length = q at *
      have HQ := Lib.hid hdl
      clear hds hdl
      go_wp2_with fail
      refine hlv.mono ?_
      rintro e w1 ⟨rfl, hb1⟩
      have hK := EntK.step hb1 ⟨HKK.out, trivial⟩
      have hO := HOO.out.below hb1
      have hbl := hBl.out _ hK.1 j hlt
      have HOO := Lib.hid hO
      have HKK := Lib.hid hK
      clear hlv hb1 hO hK
      cases hbel : below es m j
      · rw [hbel] at hbl
        go_wp2_with fail
        refine hbl.mono ?_
        rintro e w2 ⟨rfl, rfl⟩
        go_wp2_with fail
        go_roundw
        case rel =>
          have e1 : descTo es m (j + 1) = ds := by rw [HS.out, hbel]; simp
          exact ⟨j + 1, D, d, by omega, by omega, by go_num, by rw [e1, HQ.out], by rw [e1, HQ.out]; exact HOO.out, HKK.out⟩
        case measure => simp [intOf]; omega
      · rw [hbel] at hbl
        have e1 : descTo es m (j + 1) = ds ++ [(j : Int)] := by rw [HS.out, hbel]; simp
        have HE1 := Lib.hid e1
        clear e1
        have hKA := HKK.out.alloc (.cells #[.int .i64 j] 3)
        have HKA := Lib.hid hKA
        have ho := HOO.out
        unfold OwnI at ho
        have hsz := HKK.out.2.2
        clear hKA
        go_wp2_with fail
        refine hbl.mono ?_
        rintro e w2 ⟨rfl, rfl⟩
        have hq2 := HQ.out
        go_wp2_with (at_builtin; refine wpList_append_own _ rfl _ _ 31 rfl w.heap.size 3 i0 (.int .i64 0) 1 8 Try.underlying31 hi hz0 hz1 hz2 rfl (by decide) _ _ _ rfl (World.ownsRow.alloc ho _) ⟨w1.heap.size, 0, none⟩ 1 1 [.int .i64 j] rfl rfl ?c1 ?c2 ?c3 ?c4 ?c5 ?_)
        case c1 =>
          intro t u hj
          match t, hj with
          | 0, hj => simp at hj; subst hj; simp [Addr.add]
        case c2 => intro u hu; simp at hu; subst hu; rfl
        case c3 => simp only [maxLen]; omega
        case c4 => omega
        case c5 => simp; omega
        · intro v' w4 hown' hgrow _
          obtain ⟨D', d', rfl⟩ := own_form_i hown'
          have hrow := World.ownsRow.lt ho
          have hsz1 := HKA.out.2.2
          have hK4 := HKA.out.grown hgrow hgl (fun x e => (hrow x e).1)
          have hO4 : OwnI w4 w.heap.size D' (q + 1) d' (ds ++ [(j : Int)]) := by
            unfold OwnI
            rw [List.map_append]
            exact hown'
          have HK4 := Lib.hid hK4
          have HO4 := Lib.hid hO4
          clear hown' hgrow hrow hK4 hO4 ho HKA hbl
          go_wp2_with fail
          go_roundw
          case rel => exact ⟨j + 1, D', d', by omega, by omega, by go_num, by rw [HE1.out, List.length_append, HQ.out]; rfl, by rw [HE1.out, List.length_append, HQ.out]; exact HO4.out, HK4.out⟩
          case measure => simp [intOf]; omega
    · have hge : ¬ (j : Int) < (n : Int) := by omega
      have hjn : j = n := by omega
      subst hjn
      have HOO := Lib.hid hO
      have HKK := Lib.hid hK
      clear hO hK
      have hde : descTo es m j = desc es m := by unfold desc; rw [HLEN.out]
      rw [hde] at HOO
      go_wp2_with fail
      go_ret
      exact ⟨D, d, rfl, HOO.out, HKK.out.2.1⟩

end Go.Proofs.Ytpglfbjjmnaojaa

/- DeriveCap of the reference and of the program. No condition beyond those written. -/
import Derived.Test.YtpglfbjjmnaojaaTreeOps2
import Derived.Test.YtpglfbjjmnaojaaMint3
import Derived.ArgAppend
import Derived.Deep.AppendLies
import Derived.Deep.RegionHeld3
namespace Go.Proofs.Ytpglfbjjmnaojaa
open Go.RowKit
set_option linter.unusedVariables false

/-- The entry that DeriveCap adds; whether it does; what it answers. -/
def derE (es : List Ent) (m rights badge : Int) : Ent := ⟨(entAt es m).k, (entAt es m).o, bits .and .i64 (entAt es m).r rights, mintB (entAt es m).b badge, m, false⟩
def derOk (es : List Ent) (m rights badge : Int) : Bool := liveB es m && (mintOk (entAt es m).k (entAt es m).o (entAt es m).r (entAt es m).b rights badge && !(decide ((es.length : Int) = 30)))
def derL (es : List Ent) (m rights badge : Int) : List Ent := if derOk es m rights badge then es ++ [derE es m rights badge] else if liveB es m then es else []
def derN (es : List Ent) (m rights badge : Int) : Int := if derOk es m rights badge then es.length else -1
theorem derL_len (es : List Ent) (m rights badge : Int) : (derL es m rights badge).length ≤ es.length + 1 := by
  unfold derL
  split
  · rw [List.length_append]; simp
  · split <;> simp
theorem der_dead {es : List Ent} {m rights badge : Int} (h : liveB es m = false) : derOk es m rights badge = false ∧ derL es m rights badge = [] ∧ derN es m rights badge = -1 := by
  have h1 : derOk es m rights badge = false := by simp [derOk, h]
  exact ⟨h1, by simp [derL, h1, h], by simp [derN, h1]⟩
theorem der_no {es : List Ent} {m rights badge : Int} (hl : liveB es m = true) (h : (mintOk (entAt es m).k (entAt es m).o (entAt es m).r (entAt es m).b rights badge && !(decide ((es.length : Int) = 30))) = false) : derOk es m rights badge = false ∧ derL es m rights badge = es ∧ derN es m rights badge = -1 := by
  have h1 : derOk es m rights badge = false := by unfold derOk; rw [h, Bool.and_false]
  exact ⟨h1, by simp [derL, h1, hl], by simp [derN, h1]⟩
theorem der_yes {es : List Ent} {m rights badge : Int} (hl : liveB es m = true) (h : (mintOk (entAt es m).k (entAt es m).o (entAt es m).r (entAt es m).b rights badge && !(decide ((es.length : Int) = 30))) = true) : derOk es m rights badge = true ∧ derL es m rights badge = es ++ [derE es m rights badge] ∧ derN es m rights badge = es.length := by
  have h1 : derOk es m rights badge = true := by unfold derOk; rw [h, hl]; rfl
  exact ⟨h1, by simp [derL, h1], by simp [derN, h1]⟩

def GivesD (l : List Ent) (N : Int) (t : Bool) (w : World) (e : Ending) (w' : World) : Prop := ∃ (A : Option Addr) (c : Nat), e = .returned (.tuple #[.slice A l.length c, .int .i64 N, .bool t]) ∧ EntO w' w.heap.size A l.length c l ∧ Below w.heap.size w w'
def GivesOD (l : List Ent) (N : Int) (t : Bool) (w : World) (e : Ending) (w' : World) : Prop := ∃ (A : Option Addr) (c : Nat), e = .returned (.tuple #[.slice A l.length c, .int .i64 N, .bool t]) ∧ OwnE w' w.heap.size A l.length c l ∧ Below w.heap.size w w'
theorem GivesOD.e {l : List Ent} {N : Int} {t : Bool} {w w' : World} {e : Ending} (h : GivesOD l N t w e w') : GivesD l N t w e w' := by
  obtain ⟨A, c, h1, h2, h3⟩ := h
  exact ⟨A, c, h1, h2.ento, h3⟩

set_option maxHeartbeats 4000000 in
theorem spec_DeriveCap_dead (A : Option Addr) (n c b1 : Nat) (es : List Ent) (m rights badge : Int) (w : World) (h : EntO w b1 A n c es) (hn : n ≤ 2000000) (hl : liveB es m = false) :
    Calls Try.prog 35 #[.slice A n c, .int .i64 m, .int .i64 rights, .int .i64 badge] w (GivesOD [] (-1) false w) := by
  have hL := spec_l5Live A n c b1 es m w h hn
  rw [hl] at hL
  clear h hl
  go_enter Try.func35, Try.ntmps35
  go_wp2_with fail
  refine hL.mono ?_
  rintro e w1 ⟨rfl, hb1⟩
  have HB := Lib.hid hb1
  clear hb1 hL
  go_wp2_with fail
  go_ret3
  exact ⟨_, 0, rfl, OwnE.more (es := []) (World.ownsRow_lit (base := w1.heap.size) (e := 48) (size := 6) w1 #[] 0 (by simp) (by decide) rfl) HB.out.size, below_next HB.out (below_al (Below.refl _ _) _)⟩

set_option maxHeartbeats 4000000 in
theorem impl_DeriveCap_dead (A : Option Addr) (n c b1 : Nat) (es : List Ent) (m rights badge : Int) (w : World) (h : EntO w b1 A n c es) (hn : n ≤ 2000000) (hl : liveB es m = false) :
    Calls Try.prog 36 #[.slice A n c, .int .i64 m, .int .i64 rights, .int .i64 badge] w (GivesD [] (-1) false w) := by
  have hL := impl_alive A n c b1 es m w h hn
  rw [hl] at hL
  clear h hl
  go_enter Try.func36, Try.ntmps36
  go_wp2_with fail
  refine hL.mono ?_
  rintro e w1 ⟨rfl, hb1⟩
  have HB := Lib.hid hb1
  clear hb1 hL
  go_wp2_with fail
  go_ret3
  exact ⟨_, 0, rfl, EntO.nil _ _ _ _ (by decide), HB.out⟩

theorem news_six {w : World} {v0 v1 v2 v3 v4 v5 : Value} {T : TypeId} {b : Nat} (hb : b = w.heap.size) : ∀ j u, [v0, v1, v2, v3, v4, v5][j]? = some u → (w.alloc (.cells #[v0, v1, v2, v3, v4, v5] T)).cell? ((⟨b, 0, none⟩ : Addr).add j) = some u := by
  subst hb
  intro j u hj
  rw [Go.WideShapes.add_plain, cell_of_row _ _ _ _ _ (0, 0) (heap_alloc_new w _), Nat.zero_add, ← hj]
  simp

set_option maxHeartbeats 8000000 in
theorem spec_DeriveCap_live (A : Option Addr) (n c b1 : Nat) (es : List Ent) (m : Nat) (rights badge : Int) (w : World) (h : EntO w b1 A n c es) (hn : n ≤ 2000000) (hl : liveB es m = true) :
    Calls Try.prog 35 #[.slice A n c, .int .i64 m, .int .i64 rights, .int .i64 badge] w (GivesOD (derL es m rights badge) (derN es m rights badge) (derOk es m rights badge) w) := by
  have hlen := h.1
  obtain ⟨hv, ⟨m0, m1⟩, hg⟩ := liveB_iff.1 hl
  have hn30 := dValid_len hv
  obtain ⟨g, rfl, -, hgl, -⟩ := h.at_ (by omega)
  have hL := spec_l5Live (some ⟨g, 0, none⟩) n c b1 es m w h hn
  rw [hl] at hL
  have hK : EntK w.heap.size w (some ⟨g, 0, none⟩) n c b1 es w := ⟨h, Below.refl _ _, Nat.le_refl _⟩
  have HK := Lib.hid hK
  have HLEN := Lib.hid hlen
  have HV := Lib.hid hv
  have HLIVE := Lib.hid hl
  have hmn : m < n := by omega
  have hmn' : (m : Int) < (n : Int) := by omega
  have hm0' : (0 : Int) ≤ (m : Int) := by omega
  have hn30' : n ≤ 30 := by omega
  clear h hK hlen hl hg hn30 m0 m1 hv
  obtain ⟨i0, hi, hz0, hz1, hz2⟩ := info_parts entry_info
  have HI0 := Lib.hid (And.intro hi (And.intro hz0 (And.intro hz1 hz2)))
  go_enter Try.func35, Try.ntmps35
  go_wp2_with fail
  refine hL.mono ?_
  rintro e w1 ⟨rfl, hb1⟩
  have hK1 := EntK.step hb1 ⟨HK.out, trivial⟩
  have HSRC := Lib.hid hK1.1.source
  have HK1 := Lib.hid hK1
  have hgl1 := Nat.lt_of_lt_of_le hgl hb1.size
  have hws := hb1.size
  obtain ⟨k, o, r, b, p, q, hx⟩ : ∃ k o r b p q, es.getD m E0 = ⟨k, o, r, b, p, q⟩ := ⟨_, _, _, _, _, _, rfl⟩
  obtain ⟨a0, a1, a2, a3, a4, a5⟩ := hK1.cells hmn hx
  have HX := Lib.hid hx
  have HXA := Lib.hid (show entAt es m = ⟨k, o, r, b, p, q⟩ by rw [entAt_nat]; exact hx)
  clear hL hb1 hK1 hx
  go_wp2_with (at_builtin; refine wpList_append_own _ rfl _ _ 25 rfl w1.heap.size 48 i0 _ 6 48 Try.underlying25 hi hz0 hz1 hz2 rfl (by decide) _ _ _ rfl (World.ownsRow_made w1 #[] 0 (Nat.le_refl _) (Nat.zero_le _) (by simp)) ⟨g, 0, none⟩ n c (flat es) rfl ?qc1 ?qc2 ?qc3 ?qc4 ?qc5 ?qc6 ?_)
  case qc1 => rw [flat_len, HLEN.out]
  case qc2 =>
    intro j u hj
    rw [World.cell?_alloc_lt _ _ _ (by rw [block_of_add]; exact hgl1)]
    exact HSRC.out j u hj
  case qc3 => exact flat_one es
  case qc4 => simp only [maxLen]; omega
  case qc5 => omega
  case qc6 => simp
  intro v' w2 hown hgrow _
  obtain ⟨g', c', rfl, hbg', hO, hB⟩ := copied (n := n) (show 0 < n by omega) hown hgrow
  have hB2 := below_next HK1.out.2.1 hB
  have hK2 : EntK w.heap.size w (some ⟨g, 0, none⟩) n c b1 es w2 := ⟨HK1.out.1.below hB, hB2, hB2.size⟩
  have hwg : w.heap.size ≤ g' := by omega
  clear a0 a1 a2 a3 a4 a5
  obtain ⟨a0, a1, a2, a3, a4, a5⟩ := hK2.cells hmn HX.out
  have HO := Lib.hid hO
  have HK2 := Lib.hid hK2
  have HSZ := Lib.hid hB.size
  clear hown hgrow hO hB hK2 hB2 HSRC HK1 hi hz0 hz1 hz2
  cases hmk : mintOk k o r b rights badge
  · have hmint := spec_MintCap_no k o r b rights badge w2 hmk
    have HD := Lib.hid (der_no (rights := rights) (badge := badge) HLIVE.out (by rw [HXA.out, hmk]; rfl))
    go_wp2_with fail
    refine hmint.mono ?_
    rintro e w3 ⟨rfl, hb3⟩
    have HO3 := Lib.hid (HO.out.below (below_next hb3 (below_al (Below.refl _ _) (.cells #[.int .i64 0, .int .i64 0, .int .i64 0, .int .i64 0] 46))))
    have HB3 := Lib.hid (below_al (below_next HK2.out.2.1 hb3) (.cells #[.int .i64 0, .int .i64 0, .int .i64 0, .int .i64 0] 46))
    clear hmint hb3 HO
    go_wp2_with fail
    go_ret3
    obtain ⟨d1, d2, d3⟩ := HD.out
    exact ⟨some ⟨g', 0, none⟩, c', by rw [d1, d2, d3, HLEN.out]; rfl, by rw [d2, HLEN.out]; exact HO3.out.more hws, HB3.out⟩
  · have hmint := spec_MintCap_yes k o r b rights badge w2 hmk
    by_cases h30 : (n : Int) = 30
    · have HD := Lib.hid (der_no (rights := rights) (badge := badge) HLIVE.out (by rw [HXA.out, hmk, HLEN.out, decide_eq_true h30]; rfl))
      go_wp2_with fail
      refine hmint.mono ?_
      rintro e w3 ⟨rfl, hb3⟩
      have HO3 := Lib.hid (HO.out.below (below_next hb3 (below_al (Below.refl _ _) (.cells #[.int .i64 k, .int .i64 o, .int .i64 (bits .and .i64 r rights), .int .i64 (mintB b badge)] 46))))
      have HB3 := Lib.hid (below_al (below_next HK2.out.2.1 hb3) (.cells #[.int .i64 k, .int .i64 o, .int .i64 (bits .and .i64 r rights), .int .i64 (mintB b badge)] 46))
      clear hmint hb3 HO
      generalize mintB b badge = B at *
      generalize bits .and .i64 r rights = R at *
      go_wp2_with fail
      go_ret3
      obtain ⟨d1, d2, d3⟩ := HD.out
      exact ⟨some ⟨g', 0, none⟩, c', by rw [d1, d2, d3, HLEN.out]; rfl, by rw [d2, HLEN.out]; exact HO3.out.more hws, HB3.out⟩
    · have HD := Lib.hid (der_yes (rights := rights) (badge := badge) HLIVE.out (by rw [HXA.out, hmk, HLEN.out, decide_eq_false h30]; rfl))
      have HDE := Lib.hid (show derE es m rights badge = ⟨k, o, bits .and .i64 r rights, mintB b badge, m, false⟩ by unfold derE; rw [HXA.out])
      have h30' : decide ((n : Int) = 30) = false := decide_eq_false h30
      have h30b : ((n : Int) == 30) = false := by rw [beq_eq_false_iff_ne]; exact h30
      go_wp2_with fail
      refine hmint.mono ?_
      rintro e w3 ⟨rfl, hb3⟩
      generalize mintB b badge = B at *
      generalize bits .and .i64 r rights = R at *
      have hb4 := below_al (below_next hb3 (below_al (Below.refl _ _) (.cells #[.int .i64 k, .int .i64 o, .int .i64 R, .int .i64 B] 46))) (.cells #[.int .i64 k, .int .i64 o, .int .i64 R, .int .i64 B, .int .i64 (m : Int), .bool false] 48)
      have ho4 : OwnE _ _ _ _ _ _ := HO.out.below hb4
      have hb5 := below_next HK2.out.2.1 hb4
      have HB4 := Lib.hid hb5
      have HO4 := Lib.hid ho4
      have hz4 := hb4.size
      have hz2 := HSZ.out
      obtain ⟨hi, hz0, hz1, hz3⟩ := HI0.out
      clear hmint hb3 HO hb4 hb5
      unfold OwnE at ho4
      go_wp2_with (at_builtin; refine wpList_append_own _ rfl _ _ 25 rfl w1.heap.size 48 i0 _ 6 48 Try.underlying25 hi hz0 hz1 hz3 rfl (by decide) _ _ _ rfl ho4 ⟨w3.heap.size + 1, 0, none⟩ 1 1 [.int .i64 k, .int .i64 o, .int .i64 R, .int .i64 B, .int .i64 (m : Int), .bool false] rfl rfl ?qc2 ?qc3 ?qc4 ?qc5 ?qc6 ?_)
      case qc2 => exact news_six (by simp)
      case qc3 =>
        intro u hu
        simp only [List.mem_cons, List.not_mem_nil, or_false] at hu
        rcases hu with rfl | rfl | rfl | rfl | rfl | rfl <;> rfl
      case qc4 => simp only [maxLen]; omega
      case qc5 => omega
      case qc6 => simp at hz4 ⊢; omega
      intro v' w4 hown hgrow _
      obtain ⟨A4, c4, rfl⟩ := own_form_e hown
      have hO4 : OwnE w4 w1.heap.size A4 (n + 1) c4 (es ++ [⟨k, o, R, B, m, false⟩]) := by
        unfold OwnE
        rw [flat_append]
        exact hown
      have hB4 : Below w.heap.size w w4 := HB4.out.grown hgrow (by have := HB4.out.size; exact this) (by
        intro x hx
        have := (World.ownsRow.lt ho4 x hx).1
        omega)
      have HO5 := Lib.hid hO4
      have HB5 := Lib.hid hB4
      clear hown hgrow hO4 hB4 ho4 hi hz0 hz1 hz3
      go_wp2_with fail
      go_ret3
      obtain ⟨d1, d2, d3⟩ := HD.out
      have e1 : (es ++ [derE es m rights badge]).length = n + 1 := by rw [List.length_append, HLEN.out]; rfl
      exact ⟨A4, c4, by rw [d1, d2, d3, e1, HLEN.out]; rfl, by rw [d2, e1, HDE.out]; exact HO5.out.more hws, HB5.out⟩

theorem spec_DeriveCap (A : Option Addr) (n c b1 : Nat) (es : List Ent) (m rights badge : Int) (w : World) (h : EntO w b1 A n c es) (hn : n ≤ 2000000) :
    Calls Try.prog 35 #[.slice A n c, .int .i64 m, .int .i64 rights, .int .i64 badge] w (GivesOD (derL es m rights badge) (derN es m rights badge) (derOk es m rights badge) w) := by
  cases hl : liveB es m
  · obtain ⟨d1, d2, d3⟩ := der_dead (rights := rights) (badge := badge) hl
    rw [d1, d2, d3]
    exact spec_DeriveCap_dead A n c b1 es m rights badge w h hn hl
  · obtain ⟨t, rfl⟩ := live_nat hl
    exact spec_DeriveCap_live A n c b1 es t rights badge w h hn hl
theorem spec_DeriveCap_e (A : Option Addr) (n c b1 : Nat) (es : List Ent) (m rights badge : Int) (w : World) (h : EntO w b1 A n c es) (hn : n ≤ 2000000) :
    Calls Try.prog 35 #[.slice A n c, .int .i64 m, .int .i64 rights, .int .i64 badge] w (GivesD (derL es m rights badge) (derN es m rights badge) (derOk es m rights badge) w) := (spec_DeriveCap A n c b1 es m rights badge w h hn).mono fun _ _ h => h.e

/-- append onto a slice that is full, at a step of a region that draws. -/
theorem step_append_full {P : Program} (w : World) {ops : Array Oper} {o : Oper} {a : Act} {K : Act → World → Prop} {Q : Exit → Act → World → Prop} {E : Prop} (hgd : o.guard = none) (s x : Operand) (t : TypeId)
    (ho : o.op = .call { callee := .builtin .append, args := #[s, x], argTypes := #[t, t] })
    (e : TypeId) (i : TypeInfo) (z : Value) (size bytes : Nat) (ht : P.underlying t = some (.slice e)) (hi : P.info? e = some i) (hz : i.zero = some z)
    (hsize : i.size = size) (hby : i.bytes = bytes) (hzs : z.cells.size = size) (hsz : 0 < size)
    (b : Addr) (n cap : Nat) (olds : List Value) (hs : a.eval s = .slice (some b) n cap) (hlo : olds.length = n * size) (holds : ∀ j u, olds[j]? = some u → w.cell? (b.add j) = some u)
    (ad : Addr) (m c : Nat) (news : List Value) (hx : a.eval x = .slice (some ad) m c) (hl : news.length = m * size) (hnews : ∀ j u, news[j]? = some u → w.cell? (ad.add j) = some u)
    (hg : cap < n + m) (h63 : n + m ≤ maxLen) (hbytes : (n + m) * bytes ≤ 140737488355328)
    (h : ∀ v' w', w'.ownsRow w.heap.size e size v' (n + m) (olds ++ news) → w.grownBy w' none → K (a.put o.dst v') w') :
    if Region.wanted o (yielded ops a.tmps) = true then Oper.wp P o a w K Q else E := by
  have hw : Region.wanted o (yielded ops a.tmps) = true := by simp [Region.wanted, hgd]
  rw [if_pos hw]
  obtain ⟨v', w', hr, r1, r2⟩ := run_append_arg_grows (P := P) w t o.type e i z size bytes ht hi hz hsize hby hzs hsz b n cap olds hlo holds ad m c news hl hnews hg h63 hbytes
  unfold Oper.wp execOp
  simp only [ho, resolve, invoke, builtin, Sem.run_bind, Sem.run_pure, Result.andThen_ok, List.map_toArray, List.map_cons, List.map_nil, hs, hx, hr]
  exact h v' w' r1 r2
theorem below_of_grown {w w' : World} (h : w.grownBy w' none) : Below w.heap.size w w' := ⟨h.os, h.tape, h.output, h.size, fun k hk => h.block k hk (by simp)⟩

/-- The list stays, and a capability in a block of its own. -/
def EntD (B : Nat) (w0 : World) (g n c b1 : Nat) (es : List Ent) (g0 : Nat) (k o R b : Int) (w : World) : Prop := EntK B w0 (some ⟨g, 0, none⟩) n c b1 es w ∧ CAt w g0 46 [.int .i64 k, .int .i64 o, .int .i64 R, .int .i64 b]
section
variable {B n c b1 g g0 : Nat} {w0 w w1 : World} {es : List Ent} {k o R b : Int} {X : Prop}
theorem EntD.drew (h : EntD B w0 g n c b1 es g0 k o R b w) : EntD B w0 g n c b1 es g0 k o R b w.drew := ⟨h.1.drew, h.2⟩
theorem EntD.step (hb : Below w.heap.size w w1) (h : EntD B w0 g n c b1 es g0 k o R b w ∧ X) : EntD B w0 g n c b1 es g0 k o R b w1 := ⟨EntK.step hb ⟨h.1.1, trivial⟩, h.1.2.below hb⟩
theorem EntD.cells (h : EntD B w0 g n c b1 es g0 k o R b w) : EntD B w0 g n c b1 es g0 k o R b w ∧ w.cell? ⟨g0, 0, none⟩ = some (.int .i64 k) ∧ w.cell? ⟨g0, 1, none⟩ = some (.int .i64 o) ∧ w.cell? ⟨g0, 2, none⟩ = some (.int .i64 R) ∧ w.cell? ⟨g0, 3, none⟩ = some (.int .i64 b) :=
  ⟨h, h.2.cell 0, h.2.cell 1, h.2.cell 2, h.2.cell 3⟩
theorem EntD.clone_ (h : EntD B w0 g n c b1 es g0 k o R b w ∧ X) (hn : n ≤ 2000000) (h0 : 0 < n) : Calls Try.prog 59 #[.slice (some ⟨g, 0, none⟩) n c] w
    fun e w' => ∃ g9 : Nat, e = .returned (.slice (some ⟨g9, 0, none⟩) n n) ∧ EntO w' w.heap.size (some ⟨g9, 0, none⟩) n n es ∧ Below w.heap.size w w' :=
  (impl_clone (some ⟨g, 0, none⟩) n c b1 es w h.1.1.1 hn).mono fun e w' ⟨⟨A, h1, h2⟩, h3⟩ => by
    obtain ⟨g9, rfl, -⟩ := h2.some_ h0
    exact ⟨g9, h1, h2, h3⟩
theorem news_six_below {v0 v1 v2 v3 v4 v5 : Value} {T : TypeId} (hb : Below (w.alloc (.cells #[v0, v1, v2, v3, v4, v5] T)).heap.size (w.alloc (.cells #[v0, v1, v2, v3, v4, v5] T)) w1) : ∀ j u, [v0, v1, v2, v3, v4, v5][j]? = some u → w1.cell? ((⟨w.heap.size, 0, none⟩ : Addr).add j) = some u := by
  intro j u hj
  have h1 := news_six (w := w) (T := T) rfl j u hj
  rw [← h1]
  exact hb.cell (by rw [block_of_add]; simp)
theorem news_six_drew {v0 v1 v2 v3 v4 v5 : Value} {T : TypeId} (hb : Below (w.alloc (.cells #[v0, v1, v2, v3, v4, v5] T)).drew.heap.size (w.alloc (.cells #[v0, v1, v2, v3, v4, v5] T)).drew w1) : ∀ j u, [v0, v1, v2, v3, v4, v5][j]? = some u → w1.cell? ((⟨w.heap.size, 0, none⟩ : Addr).add j) = some u := by
  intro j u hj
  have h1 : (w.alloc (.cells #[v0, v1, v2, v3, v4, v5] T)).drew.cell? ((⟨w.heap.size, 0, none⟩ : Addr).add j) = some u := news_six (w := w) (T := T) rfl j u hj
  rw [← h1]
  exact hb.cell (by rw [block_of_add]; show _ < (w.alloc _).heap.size; simp)
end

set_option maxHeartbeats 16000000 in
theorem impl_DeriveCap_live (A : Option Addr) (n c b1 : Nat) (es : List Ent) (m : Nat) (rights badge : Int) (w : World) (h : EntO w b1 A n c es) (hn : n ≤ 2000000) (hl : liveB es m = true) :
    Calls Try.prog 36 #[.slice A n c, .int .i64 m, .int .i64 rights, .int .i64 badge] w (GivesD (derL es m rights badge) (derN es m rights badge) (derOk es m rights badge) w) := by
  have hlen := h.1
  obtain ⟨hv, ⟨m0, m1⟩, hg⟩ := liveB_iff.1 hl
  have hn30 := dValid_len hv
  obtain ⟨g, rfl, -, hgl, -⟩ := h.at_ (by omega)
  have hL := impl_alive (some ⟨g, 0, none⟩) n c b1 es m w h hn
  rw [hl] at hL
  have hK : EntK w.heap.size w (some ⟨g, 0, none⟩) n c b1 es w := ⟨h, Below.refl _ _, Nat.le_refl _⟩
  have HK := Lib.hid hK
  have HLEN := Lib.hid hlen
  have HV := Lib.hid hv
  have HLIVE := Lib.hid hl
  have hmn : m < n := by omega
  have hmn' : (m : Int) < (n : Int) := by omega
  have hm0' : (0 : Int) ≤ (m : Int) := by omega
  have hn30' : n ≤ 30 := by omega
  clear h hK hlen hl hg hn30 m0 m1 hv
  obtain ⟨i0, hi, hz0, hz1, hz2⟩ := info_parts entry_info
  have HI0 := Lib.hid (And.intro hi (And.intro hz0 (And.intro hz1 hz2)))
  clear hi hz0 hz1 hz2
  go_enter Try.func36, Try.ntmps36
  go_wp2_with fail
  refine hL.mono ?_
  rintro e w1 ⟨rfl, hb1⟩
  have hK1 := EntK.step hb1 ⟨HK.out, trivial⟩
  have hws := hb1.size
  obtain ⟨k, o, r, b, p, q, hx⟩ : ∃ k o r b p q, es.getD m E0 = ⟨k, o, r, b, p, q⟩ := ⟨_, _, _, _, _, _, rfl⟩
  obtain ⟨a0, a1, a2, a3, a4, a5⟩ := hK1.cells hmn hx
  have HXA := Lib.hid (show entAt es m = ⟨k, o, r, b, p, q⟩ by rw [entAt_nat]; exact hx)
  have HK1 := Lib.hid hK1
  clear hL hb1 hK1 hx HK
  cases hmk : mintOk k o r b rights badge
  · have hmint := impl_MintCap_no k o r b rights badge w1 hmk
    have HD := Lib.hid (der_no (rights := rights) (badge := badge) HLIVE.out (by rw [HXA.out, hmk]; rfl))
    go_wp2_with fail
    refine hmint.mono ?_
    rintro e w3 ⟨rfl, hb3⟩
    have hK3 := EntK.alloc (EntK.step hb3 ⟨HK1.out, trivial⟩) (.cells #[.int .i64 0, .int .i64 0, .int .i64 0, .int .i64 0] 46)
    have hc := impl_clone (some ⟨g, 0, none⟩) n c b1 es _ hK3.1 hn
    have HK3 := Lib.hid hK3
    clear hmint hb3 HK1 hK3 a0 a1 a2 a3 a4 a5
    go_wp2_with fail
    refine hc.mono ?_
    rintro e w4 ⟨⟨A', rfl, hO⟩, hB⟩
    have HO := Lib.hid hO
    have HB := Lib.hid (below_next HK3.out.2.1 hB)
    have HZ := Lib.hid HK3.out.2.2
    clear hc hO hB HK3
    go_wp2_with fail
    go_ret3
    obtain ⟨d1, d2, d3⟩ := HD.out
    exact ⟨A', n, by rw [d1, d2, d3, HLEN.out]; rfl, by rw [d2, HLEN.out]; exact HO.out.more HZ.out, HB.out⟩
  · have hmint := impl_MintCap_yes k o r b rights badge w1 hmk
    by_cases h30 : (n : Int) = 30
    · have HD := Lib.hid (der_no (rights := rights) (badge := badge) HLIVE.out (by rw [HXA.out, hmk, HLEN.out, decide_eq_true h30]; rfl))
      go_wp2_with fail
      refine hmint.mono ?_
      rintro e w3 ⟨rfl, hb3⟩
      generalize mintB b badge = B at *
      generalize bits .and .i64 r rights = R at *
      have hK3 := EntK.alloc (EntK.step hb3 ⟨HK1.out, trivial⟩) (.cells #[.int .i64 k, .int .i64 o, .int .i64 R, .int .i64 B] 46)
      have hc := impl_clone (some ⟨g, 0, none⟩) n c b1 es _ hK3.1 hn
      have HK3 := Lib.hid hK3
      clear hmint hb3 HK1 hK3 a0 a1 a2 a3 a4 a5
      go_wp2_with fail
      refine hc.mono ?_
      rintro e w4 ⟨⟨A', rfl, hO⟩, hB⟩
      have HO := Lib.hid hO
      have HB := Lib.hid (below_next HK3.out.2.1 hB)
      have HZ := Lib.hid HK3.out.2.2
      clear hc hO hB HK3
      go_wp2_with fail
      go_ret3
      obtain ⟨d1, d2, d3⟩ := HD.out
      exact ⟨A', n, by rw [d1, d2, d3, HLEN.out]; rfl, by rw [d2, HLEN.out]; exact HO.out.more HZ.out, HB.out⟩
    · have HD := Lib.hid (der_yes (rights := rights) (badge := badge) HLIVE.out (by rw [HXA.out, hmk, HLEN.out, decide_eq_false h30]; rfl))
      have HDE := Lib.hid (show derE es m rights badge = ⟨k, o, bits .and .i64 r rights, mintB b badge, m, false⟩ by unfold derE; rw [HXA.out])
      have h30' : decide ((n : Int) = 30) = false := decide_eq_false h30
      have h30b : ((n : Int) == 30) = false := by rw [beq_eq_false_iff_ne]; exact h30
      go_wp2_with fail
      refine hmint.mono ?_
      rintro e w3 ⟨rfl, hb3⟩
      generalize mintB b badge = B at *
      generalize bits .and .i64 r rights = R at *
      have hKD : EntD w.heap.size w g n c b1 es w3.heap.size k o R B (w3.alloc (.cells #[.int .i64 k, .int .i64 o, .int .i64 R, .int .i64 B] 46)) :=
        ⟨EntK.alloc (EntK.step hb3 ⟨HK1.out, trivial⟩) _, CAt.new w3 46 [.int .i64 k, .int .i64 o, .int .i64 R, .int .i64 B]⟩
      have HKD := Lib.hid hKD
      clear hmint hb3 HK1 hKD a0 a1 a2 a3 a4 a5
      go_wp2_with fail
      obtain ⟨hi, hz0, hz1, hz3⟩ := HI0.out
      have hKD := HKD.out
      have h0n : 0 < n := by omega
      have hfl : (flat es).length = n * 6 := by rw [flat_len, HLEN.out]
      generalize w3.alloc (.cells #[.int .i64 k, .int .i64 o, .int .i64 R, .int .i64 B] 46) = W at *
      generalize w3.heap.size = g0 at *
      clear HV HLIVE HI0 HXA HKD
      (first
        | (go_region_held3 (fun w' => EntD w.heap.size w g n c b1 es g0 k o R B w' ∧ w'.cell? ⟨g0, 0, none⟩ = some (.int .i64 k) ∧ w'.cell? ⟨g0, 1, none⟩ = some (.int .i64 o) ∧ w'.cell? ⟨g0, 2, none⟩ = some (.int .i64 R) ∧ w'.cell? ⟨g0, 3, none⟩ = some (.int .i64 B))
            (first | exact (EntD.drew hKD).cells | exact (EntD.step (by assumption) (by assumption)).cells | exact (EntD.step (below_al (Below.refl _ _) _) (by assumption)).cells)
            (first
              | (go_at_call 59; (with_reducible refine (EntD.clone_ (by assumption) hn h0n).mono ?_); rintro e w9 ⟨g9, rfl, hO9, hb9⟩)
              | (go_at_call 59; (with_reducible refine (impl_clone _ (n + 1) _ _ (es ++ [⟨k, o, R, B, m, false⟩]) _ (by assumption) (by omega)).mono ?_); rintro e w5 ⟨⟨A5, rfl, hO5⟩, hb5⟩)
              | (refine step_append_full _ (by rfl) _ _ _ (by rfl) 48 i0 _ 6 48 Try.underlying25 hi hz0 hz1 hz3 rfl (by decide) ⟨g9, 0, none⟩ n n (flat es) (by rfl) hfl (by first | exact EntO.source (by assumption) | exact EntO.source (EntO.alloc (by assumption) _)) _ 1 1
                  [.int .i64 k, .int .i64 o, .int .i64 R, .int .i64 B, .int .i64 (m : Int), .bool false] (by rfl) (by rfl) (by first | exact news_six rfl | exact news_six_below (by assumption) | exact news_six_drew (by assumption)) (by omega) (by simp only [maxLen]; omega) (by omega) ?_
                 intro v' w4 hown hgrow
                 obtain ⟨A4, c4, rfl⟩ := own_form_e hown
                 have hO4 : EntO w4 _ A4 (n + 1) c4 (es ++ [⟨k, o, R, B, m, false⟩]) := EntO.of_own (by rw [flat_append]; exact hown)
                 have hb4 := below_of_grown hgrow
                 clear hown hgrow)))
        | fail)
      all_goals
        have hz : w.heap.size ≤ w4.heap.size := by
          have s4 := hb4.size
          have s9 := hb9.size
          have sW := hKD.1.2.2
          have e := (show ∀ x : World, x.drew.heap.size = x.heap.size from fun _ => rfl)
          simp only [e, World.size_alloc] at s4 s9
          omega
        have hfin : EntD w.heap.size w g n c b1 es g0 k o R B w5 := And.left (by assumption)
        have HFIN := Lib.hid hfin
        have HO5 := Lib.hid hO5
        clear hO5 hO4 hO9 hb4 hb5 hb9 hfin hKD
        go_wp2_with fail
        go_ret3
        obtain ⟨d1, d2, d3⟩ := HD.out
        have e1 : (es ++ [derE es m rights badge]).length = n + 1 := by rw [List.length_append, HLEN.out]; rfl
        exact ⟨A5, n + 1, by rw [d1, d2, d3, e1, HLEN.out]; rfl, by rw [d2, e1, HDE.out]; exact HO5.out.more hz, HFIN.out.1.2.1⟩

theorem impl_DeriveCap (A : Option Addr) (n c b1 : Nat) (es : List Ent) (m rights badge : Int) (w : World) (h : EntO w b1 A n c es) (hn : n ≤ 2000000) :
    Calls Try.prog 36 #[.slice A n c, .int .i64 m, .int .i64 rights, .int .i64 badge] w (GivesD (derL es m rights badge) (derN es m rights badge) (derOk es m rights badge) w) := by
  cases hl : liveB es m
  · obtain ⟨d1, d2, d3⟩ := der_dead (rights := rights) (badge := badge) hl
    rw [d1, d2, d3]
    exact impl_DeriveCap_dead A n c b1 es m rights badge w h hn hl
  · obtain ⟨t, rfl⟩ := live_nat hl
    exact impl_DeriveCap_live A n c b1 es t rights badge w h hn hl

end Go.Proofs.Ytpglfbjjmnaojaa

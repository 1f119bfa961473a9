/- RemoveCap and RevokeCap of the reference and of the program. No condition beyond those written. -/
import Derived.Test.YtpglfbjjmnaojaaSteps
import Derived.Test.YtpglfbjjmnaojaaEntMark
import Derived.Test.YtpglfbjjmnaojaaTreeLaws
namespace Go.Proofs.Ytpglfbjjmnaojaa
open Go.RowKit
set_option linter.unusedVariables false

/-- The slice '.slice A n c' owns the entries es, from block base on. -/
def OwnE (w : World) (base : Nat) (A : Option Addr) (n c : Nat) (es : List Ent) : Prop := w.ownsRow base 48 6 (.slice A n c) n (flat es)
section
variable {w w' : World} {base n c : Nat} {A : Option Addr} {es : List Ent}
theorem OwnE.ento (h : OwnE w base A n c es) : EntO w base A n c es := EntO.of_own h
theorem OwnE.len (h : OwnE w base A n c es) : es.length = n := h.ento.1
theorem OwnE.below (h : OwnE w base A n c es) (hb : Below w.heap.size w w') : OwnE w' base A n c es :=
  World.ownsRow.kept h (row := none) ⟨hb.os, hb.tape, hb.output, hb.size, fun k hk _ => hb.block k hk⟩ (by cases h' : (Value.slice A n c).ownBlock <;> simp)
theorem OwnE.grown (h : OwnE w base A n c es) {r : Option Nat} (hg : w.grownBy w' r) (hr : ∀ x, r = some x → x < base) : OwnE w' base A n c es := by
  refine ⟨h.1, ?_⟩
  rcases h.2 with h0 | ⟨g, cap, cur, hv, hb, hgg, rest⟩
  · exact .inl h0
  · exact .inr ⟨g, cap, cur, hv, hb, (hg.block g (Array.getElem?_eq_some_iff.1 hgg).1 (fun e => by have := hr g e.symm; omega)).trans hgg, rest⟩
theorem OwnE.more (h : OwnE w base A n c es) {base' : Nat} (hb : base' ≤ base) : OwnE w base' A n c es := by
  refine ⟨h.1, ?_⟩
  rcases h.2 with h0 | ⟨g, cap, cur, hv, hbg, rest⟩
  · exact .inl h0
  · exact .inr ⟨g, cap, cur, hv, by omega, rest⟩
/-- A store to one field of one entry. -/
theorem OwnE.set {g : Nat} (h : OwnE w base (some ⟨g, 0, none⟩) n c es) (i d : Nat) (hi : i < n) (hd : d < 6) (e' : Ent) (v : Value) (he : (es.getD i E0).cells.set d v = e'.cells) :
    OwnE (w.setCell ⟨g, i * 6 + d, none⟩ v) base (some ⟨g, 0, none⟩) n c (es.set i e') := by
  have hl := h.len
  have := (World.ownsRow.stored h (i * 6 + d) v).1
  rwa [flat_set es i d e' v (by omega) hd he] at this
end

/-- A list of entries as a result: a row of the call's own, with whatever behind it; and one that may be appended to. -/
def GivesE (l : List Ent) (w : World) (e : Ending) (w' : World) : Prop := ∃ (A : Option Addr) (c : Nat), e = .returned (.slice A l.length c) ∧ EntO w' w.heap.size A l.length c l ∧ Below w.heap.size w w'
def GivesOE (l : List Ent) (w : World) (e : Ending) (w' : World) : Prop := ∃ (A : Option Addr) (c : Nat), e = .returned (.slice A l.length c) ∧ OwnE w' w.heap.size A l.length c l ∧ Below w.heap.size w w'
theorem GivesOE.e {l : List Ent} {w w' : World} {e : Ending} (h : GivesOE l w e w') : GivesE l w e w' := by
  obtain ⟨A, c, h1, h2, h3⟩ := h
  exact ⟨A, c, h1, h2.ento, h3⟩

/-! ### Plain: the trees on the way -/
def remS (es : List Ent) (m : Int) (k : Nat) (t : Bool) : List Ent :=
  es.mapIdx fun i e => ⟨e.k, e.o, e.r, e.b, cond (decide (i < k) && (e.p == m && !e.g)) (entAt es m).p e.p, e.g || (t && decide ((i : Int) = m))⟩
theorem remS_len (es : List Ent) (m : Int) (k : Nat) (t : Bool) : (remS es m k t).length = es.length := by simp [remS]
theorem remS_get {es : List Ent} {m : Int} {k : Nat} {t : Bool} {i : Nat} (hi : i < es.length) :
    (remS es m k t).getD i E0 = ⟨(es.getD i E0).k, (es.getD i E0).o, (es.getD i E0).r, (es.getD i E0).b, cond (decide (i < k) && ((es.getD i E0).p == m && !(es.getD i E0).g)) (entAt es m).p (es.getD i E0).p, (es.getD i E0).g || (t && decide ((i : Int) = m))⟩ := by
  unfold remS
  simp [List.getD, List.getElem?_mapIdx, List.getElem?_eq_getElem hi]
theorem getD_set {es : List Ent} {i j : Nat} {x : Ent} (hj : j < es.length) : (es.set j x).getD i E0 = if j = i then x else es.getD i E0 := by
  by_cases h : j = i
  · subst h
    simp [List.getD, hj]
  · simp [List.getD, h]
theorem dec_succ {i k : Nat} (h : i ≠ k) : decide (i < k + 1) = decide (i < k) := by rw [Bool.eq_iff_iff]; simp; omega
theorem remS_no {es : List Ent} {m : Int} {k : Nat} {t : Bool} (h : ((es.getD k E0).p == m && !(es.getD k E0).g) = false) : remS es m (k + 1) t = remS es m k t := by
  refine ents_ext (by simp only [remS_len]) fun i hi => ?_
  rw [remS_len] at hi
  rw [remS_get hi, remS_get hi]
  by_cases e : i = k
  · subst e
    rw [h, Bool.and_false, Bool.and_false]
  · rw [dec_succ e]
theorem remS_yes {es : List Ent} {m : Int} {k : Nat} {t : Bool} (hk : k < es.length) (h : ((es.getD k E0).p == m && !(es.getD k E0).g) = true) : remS es m (k + 1) t = (remS es m k t).set k { (remS es m k t).getD k E0 with p := (entAt es m).p } := by
  refine ents_ext (by simp only [remS_len, List.length_set]) fun i hi => ?_
  rw [remS_len] at hi
  rw [getD_set (by rw [remS_len]; exact hk), remS_get hi]
  by_cases e : k = i
  · subst e
    rw [if_pos rfl, remS_get hi, h]
    simp
  · rw [if_neg e, remS_get hi, dec_succ (fun h => e h.symm)]
theorem remS_first {es : List Ent} {m : Nat} (hv : dValid es = true) (hm : m < es.length) : remS es m (m + 1) false = es := by
  refine ents_ext (remS_len _ _ _ _) fun i hi => ?_
  rw [remS_len] at hi
  rw [remS_get hi]
  have hp := dValid_par hv (i := (i : Int)) (by omega) (by omega)
  rw [entAt_nat] at hp
  have e : (decide (i < m + 1) && ((es.getD i E0).p == (m : Int) && !(es.getD i E0).g)) = false := by
    by_cases h : i < m + 1
    · have : ((es.getD i E0).p == (m : Int)) = false := by rw [beq_eq_false_iff_ne]; omega
      rw [this]
      simp
    · simp [h]
  rw [e, Bool.false_and, Bool.or_false]
  rfl
theorem remS_zero (es : List Ent) (m : Nat) (hm : m < es.length) : es.set m { es.getD m E0 with g := true } = remS es m 0 true := by
  refine ents_ext (by rw [remS_len, List.length_set]) fun i hi => ?_
  rw [List.length_set] at hi
  rw [remS_get hi, getD_set hm]
  by_cases e : m = i
  · subst e
    rw [if_pos rfl]
    simp
  · have h2 : ¬ (i : Int) = (m : Int) := by omega
    rw [if_neg e, decide_eq_false h2]
    simp
theorem remS_end {es : List Ent} {m : Nat} : remS es m es.length true = removeE es m := by
  refine ent_ext (by rw [remS_len, removeE_len]) fun i h0 hi => ?_
  rw [remS_len] at hi
  obtain ⟨j, rfl⟩ := Int.eq_ofNat_of_zero_le h0
  have hj : j < es.length := by omega
  rw [removeE_at h0 hi, entAt_nat, remS_get hj, ← entAt_nat, decide_eq_true hj, Bool.true_and, Bool.true_and]
  by_cases hc : (entAt es j).p = m ∧ (entAt es j).g = false
  · rw [if_pos hc, hc.1, hc.2]
    simp
  · rw [if_neg hc]
    have : ((entAt es j).p == (m : Int) && !(entAt es j).g) = false := by
      cases h : ((entAt es j).p == (m : Int) && !(entAt es j).g)
      · rfl
      · simp only [Bool.and_eq_true, beq_iff_eq, Bool.not_eq_true'] at h
        exact absurd h hc
    rw [this]
    rfl
theorem remS_last {es : List Ent} {m : Nat} (hv : dValid es = true) (hm : m < es.length) : (remS es m es.length false).set m { (remS es m es.length false).getD m E0 with g := true } = removeE es m := by
  rw [← remS_end]
  refine ents_ext (by rw [remS_len, List.length_set, remS_len]) fun i hi => ?_
  rw [List.length_set, remS_len] at hi
  rw [getD_set (by rw [remS_len]; exact hm)]
  by_cases e : m = i
  · subst e
    rw [if_pos rfl]
    simp only [remS_get hi]
    simp
  · have h2 : ¬ (i : Int) = (m : Int) := by omega
    rw [if_neg e]
    simp only [remS_get hi, decide_eq_false h2]
    simp
theorem remS_cur {es : List Ent} {m : Int} {j : Nat} (hj : j < es.length) : (remS es m j false).getD j E0 = es.getD j E0 := by
  rw [remS_get hj, decide_eq_false (Nat.lt_irrefl j)]
  simp

theorem gone_get {es : List Ent} {l : List Int} {i : Nat} (hi : i < es.length) : (goneE es l).getD i E0 = { es.getD i E0 with g := (es.getD i E0).g || decide ((i : Int) ∈ l) } := by
  have := goneE_at (es := es) (l := l) (i := (i : Int)) (by omega) (by omega)
  rwa [entAt_nat, entAt_nat] at this
theorem gone_step {es : List Ent} {l : List Int} {k i : Nat} (hk : k < l.length) (hi : l.getD k 0 = (i : Int)) (hil : i < es.length) :
    goneE es (l.take (k + 1)) = (goneE es (l.take k)).set i { (goneE es (l.take k)).getD i E0 with g := true } := by
  have ht : l.take (k + 1) = l.take k ++ [(i : Int)] := by
    rw [List.take_succ_eq_append_getElem hk, ← hi]
    simp [List.getD, hk]
  refine ents_ext (by rw [List.length_set, goneE_len, goneE_len]) fun j hj => ?_
  rw [goneE_len] at hj
  rw [getD_set (by rw [goneE_len]; exact hil), gone_get hj, ht]
  by_cases e : i = j
  · subst e
    rw [if_pos rfl, gone_get hil]
    simp
  · have h2 : ¬ (j : Int) = (i : Int) := by omega
    rw [if_neg e, gone_get hj]
    simp [h2]

def remL (es : List Ent) (m : Int) : List Ent := if liveB es m then removeE es m else []
def revL (es : List Ent) (m : Int) : List Ent := if liveB es m then revokeE es m else []
theorem remL_len (es : List Ent) (m : Int) : (remL es m).length ≤ es.length := by
  unfold remL
  split
  · rw [removeE_len]; omega
  · simp
theorem revL_len (es : List Ent) (m : Int) : (revL es m).length ≤ es.length := by
  unfold revL
  split
  · rw [revokeE_len]; omega
  · simp

/-! ### The walks -/
theorem EntO.row_ {w : World} {base n c : Nat} {A : Option Addr} {es : List Ent} (h : EntO w base A n c es) : RowO w base 48 6 A n c (flat es) := ⟨by rw [flat_len, h.1], h.2.1, h.2.2.1, h.2.2.2⟩
theorem EntO.of_row {w : World} {base n c : Nat} {A : Option Addr} {es : List Ent} (h : RowO w base 48 6 A n c (flat es)) : EntO w base A n c es := ⟨by have := h.1; rw [flat_len] at this; omega, h.2.1, h.2.2.1, h.2.2.2⟩
theorem EntO.none_ {w : World} {base n c : Nat} {A : Option Addr} {es : List Ent} (h : EntO w base A n c es) : A = none → n = 0 := fun e => by
  by_cases hn : n = 0
  · exact hn
  · obtain ⟨g, hA, -⟩ := h.at_ (by omega)
    rw [e] at hA
    cases hA
theorem EntO.source {w : World} {base n c g : Nat} {es : List Ent} (h : EntO w base (some ⟨g, 0, none⟩) n c es) : ∀ j u, (flat es)[j]? = some u → w.cell? ((⟨g, 0, none⟩ : Addr).add j) = some u := by
  intro j u hj
  have hjl : j < (flat es).length := (List.getElem?_eq_some_iff.1 hj).1
  rw [flat_len, h.1] at hjl
  obtain ⟨g', hA, _, _, hc, _⟩ := h.row_.at_ (by omega)
  injection hA with hA
  injection hA with hA
  subst hA
  rw [Go.WideShapes.add_plain, Nat.zero_add, hc j hjl, hj]
theorem impl_clone (A : Option Addr) (n c b1 : Nat) (es : List Ent) (w : World) (h : EntO w b1 A n c es) (hn : n ≤ 2000000) :
    Calls Try.prog 59 #[.slice A n c] w fun e w' => (∃ A' : Option Addr, e = .returned (.slice A' n n) ∧ EntO w' w.heap.size A' n n es) ∧ Below w.heap.size w w' :=
  (clone_row A n c b1 (flat es) w h.row_ (flat_one es) hn h.none_).mono fun _ _ h => ⟨by obtain ⟨A', h1, h2⟩ := h.1; exact ⟨A', h1, .of_row h2⟩, h.2⟩

theorem own_form_e {w : World} {base n : Nat} {v : Value} {vs : List Value} (h : w.ownsRow base 48 6 v n vs) : ∃ A c, v = .slice A n c := by
  rcases h.2 with ⟨rfl, rfl⟩ | ⟨g, cap, cur, rfl, _⟩
  · exact ⟨_, _, rfl⟩
  · exact ⟨_, _, rfl⟩
/-- Behind 'append([]Entry{}, d...)'. -/
theorem copied {w w' : World} {v : Value} {n : Nat} {es : List Ent} (hn : 0 < n) (h1 : w'.ownsRow w.heap.size 48 6 v n (flat es)) (hg : (w.alloc (.cells #[] 48)).grownBy w' (some w.heap.size)) :
    ∃ g c, v = .slice (some ⟨g, 0, none⟩) n c ∧ w.heap.size ≤ g ∧ OwnE w' w.heap.size (some ⟨g, 0, none⟩) n c es ∧ Below w.heap.size w w' := by
  obtain ⟨A, c, rfl⟩ := own_form_e h1
  have h2 : OwnE w' w.heap.size A n c es := h1
  obtain ⟨g, rfl, hb, -⟩ := h2.ento.at_ hn
  exact ⟨g, c, rfl, hb, h2, ((Below.refl _ w).alloc (Nat.le_refl _) _).grown hg (by simp) (by intro k hk; simp at hk; omega)⟩

def OutS (B W1 : Nat) (w : World) (g c n b1 g' c' : Nat) (es os : List Ent) (wr : World) : Prop := OwnE wr W1 (some ⟨g', 0, none⟩) n c' os ∧ EntK B w (some ⟨g, 0, none⟩) n c b1 es wr
theorem OutS.set {B W1 : Nat} {w wr : World} {g c n b1 g' c' : Nat} {es os : List Ent} (h : OutS B W1 w g c n b1 g' c' es os wr) (hg : g < B) (hb : B ≤ g') (i d : Nat) (hi : i < n) (hd : d < 6) (e' : Ent) (v : Value) (he : (os.getD i E0).cells.set d v = e'.cells) :
    OutS B W1 w g c n b1 g' c' es (os.set i e') (wr.setCell ⟨g', i * 6 + d, none⟩ v) := ⟨h.1.set i d hi hd e' v he, h.2.setFar hg hb v⟩
set_option maxHeartbeats 4000000 in
theorem spec_RemoveCap_no (A : Option Addr) (n c b1 : Nat) (es : List Ent) (m : Int) (w : World) (h : EntO w b1 A n c es) (hn : n ≤ 2000000) (hl : liveB es m = false) :
    Calls Try.prog 32 #[.slice A n c, .int .i64 m] w (GivesOE [] w) := by
  have hL := spec_l5Live A n c b1 es m w h hn
  rw [hl] at hL
  clear h hl
  go_enter Try.func32, Try.ntmps32
  go_wp2_with fail
  refine hL.mono ?_
  rintro e w1 ⟨rfl, hb1⟩
  have HB := Lib.hid hb1
  clear hb1 hL
  go_wp2_with fail
  go_ret
  exact ⟨_, 0, rfl, OwnE.more (es := []) (World.ownsRow_lit (base := w1.heap.size) (e := 48) (size := 6) w1 #[] 0 (by simp) (by decide) rfl) HB.out.size, below_next HB.out (below_al (Below.refl _ _) _)⟩

set_option maxHeartbeats 8000000 in
theorem spec_RemoveCap_yes (A : Option Addr) (n c b1 : Nat) (es : List Ent) (m : Nat) (w : World) (h : EntO w b1 A n c es) (hn : n ≤ 2000000) (hl : liveB es m = true) :
    Calls Try.prog 32 #[.slice A n c, .int .i64 m] w (GivesOE (removeE es m) w) := by
  have hlen := h.1
  obtain ⟨hv, ⟨m0, m1⟩, hg⟩ := liveB_iff.1 hl
  have hn30 := dValid_len hv
  obtain ⟨g, rfl, -, hgl, -⟩ := h.at_ (by omega)
  have hL := spec_l5Live (some ⟨g, 0, none⟩) n c b1 es m w h hn
  rw [hl] at hL
  obtain ⟨i0, hi, hz0, hz1, hz2⟩ := info_parts entry_info
  have hK : EntK w.heap.size w (some ⟨g, 0, none⟩) n c b1 es w := ⟨h, Below.refl _ _, Nat.le_refl _⟩
  have HK := Lib.hid hK
  have HLEN := Lib.hid hlen
  have HV := Lib.hid hv
  have hmn : m < n := by omega
  have hmn' : (m : Int) < (n : Int) := by omega
  have hm0' : (0 : Int) ≤ (m : Int) := by omega
  have hn30' : n ≤ 30 := by omega
  clear h hK hlen hl hg hn30 m0 m1 hv
  go_enter Try.func32, Try.ntmps32
  go_wp2_with fail
  refine hL.mono ?_
  rintro e w1 ⟨rfl, hb1⟩
  have hK1 := EntK.step hb1 ⟨HK.out, trivial⟩
  have HSRC := Lib.hid hK1.1.source
  have HK1 := Lib.hid hK1
  have hgl1 := Nat.lt_of_lt_of_le hgl hb1.size
  have hws := hb1.size
  clear hL hb1 hK1
  go_wp2_with (at_builtin; refine wpList_append_own _ rfl _ _ 25 rfl w1.heap.size 48 i0 _ 6 48 Try.underlying25 hi hz0 hz1 hz2 rfl (by decide) _ _ _ rfl (World.ownsRow_made w1 #[] 0 (Nat.le_refl _) (Nat.zero_le _) (by simp)) ⟨g, 0, none⟩ n c (flat es) rfl ?qc1 ?qc2 ?qc3 ?qc4 ?qc5 ?qc6 ?_)
  case qc1 => rw [flat_len, HLEN.out]
  case qc2 =>
    intro j u hj
    rw [World.cell?_alloc_lt _ _ _ (by rw [block_of_add]; exact hgl1)]
    exact HSRC.out j u hj
  case qc3 => exact flat_one es
  case qc4 => simp only [maxLen]; omega
  case qc5 => omega
  case qc6 => simp
  intro v' w2 hown hgrow _
  obtain ⟨g', c', rfl, hbg', hO, hB⟩ := copied (n := n) (show 0 < n by omega) hown hgrow
  have hB2 := below_next HK1.out.2.1 hB
  have hK2 : EntK w.heap.size w (some ⟨g, 0, none⟩) n c b1 es w2 := ⟨HK1.out.1.below hB, hB2, hB2.size⟩
  have HS := Lib.hid (show OutS w.heap.size w1.heap.size w g c n b1 g' c' es es w2 from ⟨hO, hK2⟩)
  have hwg : w.heap.size ≤ g' := by omega
  clear hown hgrow hO hB hK2 hB2 HSRC HK1 hi hz0 hz1 hz2
  go_wp2_with fail
  go_loopw [6] (fun i wr => ∃ j : Nat, m < j ∧ j ≤ n ∧ i = .int .i64 j ∧ OutS w.heap.size w1.heap.size w g c n b1 g' c' es (remS es m j false) wr) (fun i _ => n - (intOf i).toNat)
  case atStart => exact ⟨m + 1, by omega, by omega, by first | rfl | go_num, by rw [remS_first HV.out (by have := HLEN.out; omega)]; exact HS.out⟩
  case round =>
    clear HS
    obtain ⟨j, hmj, hj, rfl, hS⟩ := hrel
    obtain ⟨x, hx, -, hgl', hc1, hf1⟩ := hS.1.ento.at_ (by omega)
    injection hx with hx
    injection hx with hx
    subst hx
    by_cases hlt : j < n
    · have hjl : j < es.length := by have := HLEN.out; omega
      obtain ⟨k, o, r, b, p, q, hx⟩ : ∃ k o r b p q, es.getD j E0 = ⟨k, o, r, b, p, q⟩ := ⟨_, _, _, _, _, _, rfl⟩
      obtain ⟨k', o', r', b', P, q', hxm⟩ : ∃ k o r b p q, es.getD m E0 = ⟨k, o, r, b, p, q⟩ := ⟨_, _, _, _, _, _, rfl⟩
      have hcj := hc1 j hlt
      rw [remS_cur hjl, hx] at hcj
      obtain ⟨a0, a1, a2, a3, a4, a5⟩ := hcj
      obtain ⟨y0, y1, y2, y3, y4, y5⟩ := hS.2.cells hmn hxm
      have hset := hS.set hgl hwg j 4 hlt (by omega) { (remS es m j false).getD j E0 with p := (entAt es m).p } (.int .i64 P) (by rw [remS_cur hjl, hx, entAt_nat, hxm]; rfl)
      have HS := Lib.hid hS
      have HSET := Lib.hid hset
      have HX := Lib.hid hx
      have HJ := Lib.hid hjl
      have hlt' : (j : Int) < (n : Int) := by omega
      have hj0 : (0 : Int) ≤ (j : Int) := by omega
      clear hS hset hx hxm hc1 hjl
      simp only at a0 a1 a2 a3 a4 a5
      cases h2 : (p == (m : Int))
      · go_wp2_with fail
        go_roundw
        case rel => exact ⟨j + 1, by omega, by omega, by go_num, by rw [remS_no (by rw [HX.out]; show (p == (m : Int) && _) = false; rw [h2]; rfl)]; exact HS.out⟩
        case measure => simp [intOf]; omega
      · cases q
        · go_wp2_with fail
          go_roundw
          case rel => exact ⟨j + 1, by omega, by omega, by go_num, by rw [remS_yes HJ.out (by rw [HX.out]; show (p == (m : Int) && !false) = true; rw [h2]; rfl)]; exact HSET.out⟩
          case measure => simp [intOf]; omega
        · go_wp2_with fail
          go_roundw
          case rel => exact ⟨j + 1, by omega, by omega, by go_num, by rw [remS_no (by rw [HX.out]; show (p == (m : Int) && !true) = false; rw [h2]; rfl)]; exact HS.out⟩
          case measure => simp [intOf]; omega
    · have hge : ¬ (j : Int) < (n : Int) := by omega
      have hjn : j = n := by omega
      subst hjn
      obtain ⟨a0, a1, a2, a3, a4, a5⟩ := hc1 m hmn
      have hml : m < es.length := by have := HLEN.out; omega
      have hset := hS.set hgl hwg m 5 hmn (by omega) { (remS es m j false).getD m E0 with g := true } (.bool true) rfl
      have hlast := remS_last HV.out hml
      rw [HLEN.out] at hlast
      rw [hlast] at hset
      have HSET := Lib.hid hset
      have HLR := Lib.hid (show (removeE es m).length = j by rw [removeE_len, HLEN.out])
      generalize (remS es m j false).getD m E0 = E at *
      clear hS hset hc1 hlast
      go_wp2_with fail
      go_ret
      have hL := HLR.out
      exact ⟨some ⟨g', 0, none⟩, c', by rw [hL]; rfl, by rw [hL]; exact HSET.out.1.more hws, HSET.out.2.2.1⟩

end Go.Proofs.Ytpglfbjjmnaojaa

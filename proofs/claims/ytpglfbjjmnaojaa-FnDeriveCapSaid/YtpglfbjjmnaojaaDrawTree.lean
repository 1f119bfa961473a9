/- The draw of a derivation tree, whatever the code: a list of entries in memory of its own; the draws on it. No condition. -/
import Derived.Test.YtpglfbjjmnaojaaDerive
import Derived.Test.YtpglfbjjmnaojaaDrawGen
import Derived.Test.YtpglfbjjmnaojaaRegion3
namespace Go.Proofs.Ytpglfbjjmnaojaa
open Go.RowKit
set_option linter.unusedVariables false

theorem OwnE.only {w w' : World} {base n c b : Nat} {A : Option Addr} {es : List Ent} (h : OwnE w base A n c es) (ho : Only b w w') (hb : b < base) : OwnE w' base A n c es := h.grown ho.grown (fun x e => by injection e with e; omega)

/-- Only the reader's block has turned, and what is new; blocks keep their shape. -/
def LeO (b : Nat) (w w' : World) : Prop := Only b w w' ∧ Le w w'
section
variable {b m m' : Nat} {w w' : World}
theorem LeO.refl (b : Nat) (w : World) : LeO b w w := ⟨Only.refl _ _, Le.refl _⟩
theorem LeO.only (ho : Only b w w') (hr : Rd w b m) (hr' : Rd w' b m') : LeO b w w' := ⟨ho, Le.only ho hr hr'⟩
theorem LeO.alloc (b : Nat) (w : World) (o : Obj) : LeO b w (w.alloc o) := ⟨(Only.refl _ _).alloc o, Le.alloc w o⟩
theorem LeO.below (hb : Below w.heap.size w w') : LeO b w w' := ⟨.of_below hb, .below hb⟩
end
/-- Behind a region that began in W: the reader stands; only its block and what is new has turned. -/
def TG (S b m N : Nat) (w0 W : World) (f : Nat) (w : World) : Prop := Rd w b (m + 100 * (N - f)) ∧ Only b W w
section
variable {S b m N f m' : Nat} {w0 W w w' : World}
theorem TG.rd (h : TG S b m N w0 W f w) : Rd w b (m + 100 * (N - f)) := h.1
theorem TG.only (h : TG S b m N w0 W f w) : Only b W w := h.2
theorem TG.keep (h : TG S b m N w0 W (f + 1) w) : TG S b m N w0 W f w := ⟨h.1.more (by omega), h.2⟩
theorem TG.step (h : TG S b m N w0 W (f + 1) w) (hr : Rd w' b m') (hm : m' ≤ m + 100 * (N - f)) (ho : Only b w w') : TG S b m N w0 W f w' := ⟨hr.more hm, h.only.trans ho⟩
theorem TG.below (h : TG S b m N w0 W (f + 1) w) (hb : Below w.heap.size w w') : TG S b m N w0 W f w' := ⟨(h.1.below hb).more (by omega), h.only.trans (.of_below hb)⟩
theorem TG.alloc (h : TG S b m N w0 W (f + 1) w) (o : Obj) : TG S b m N w0 W f (w.alloc o) := h.below ((Below.refl _ _).alloc (Nat.le_refl _) o)
end

/-- The tree on the way: d owns its entries in memory from B on; the reader in block b, below B, stands at most at M. -/
def TreeS (B b M : Nat) (w : World) (A : Option Addr) (k c : Nat) (es : List Ent) (wr : World) : Prop := OwnE wr B A k c es ∧ Rd wr b M ∧ Only b w wr ∧ b < B ∧ B ≤ wr.heap.size
section
variable {B b M M' k c k' c' : Nat} {w wr w1 : World} {A A' : Option Addr} {es es' : List Ent}
theorem TreeS.pick (h : TreeS B b M w A k c es wr) (hr : Rd w1 b M') (ho : Only b wr w1) : TreeS B b M' w A k c es w1 := ⟨h.1.only ho h.2.2.2.1, hr, h.2.2.1.trans ho, h.2.2.2.1, Nat.le_trans h.2.2.2.2 ho.size⟩
theorem TreeS.below (h : TreeS B b M w A k c es wr) (hb : Below wr.heap.size wr w1) : TreeS B b M w A k c es w1 := h.pick (h.2.1.below hb) (.of_below hb)
theorem TreeS.alloc (h : TreeS B b M w A k c es wr) (o : Obj) : TreeS B b M w A k c es (wr.alloc o) := h.below (below_al (Below.refl _ _) o)
theorem TreeS.drew (h : TreeS B b M w A k c es wr) : TreeS B b M w A k c es wr.drew := ⟨h.1, h.2.1.drew, h.2.2.1.drew, h.2.2.2⟩
theorem TreeS.other (h : TreeS B b M w A k c es wr) (ho : OwnE w1 wr.heap.size A' k' c' es') (hb : Below wr.heap.size wr w1) : TreeS B b M w A' k' c' es' w1 :=
  ⟨ho.more h.2.2.2.2, h.2.1.below hb, h.2.2.1.trans (.of_below hb), h.2.2.2.1, Nat.le_trans h.2.2.2.2 hb.size⟩
theorem TreeS.append (h : TreeS B b M w A k c es wr) (hw : w.heap.size ≤ B) (ho : OwnE w1 B A' k' c' es') (hg : wr.grownBy w1 (Value.slice A k c).ownBlock) : TreeS B b M w A' k' c' es' w1 := by
  have hlt := World.ownsRow.lt h.1
  have hbB := h.2.2.2.1
  refine ⟨ho, h.2.1.keep (fun x hx => hg.block x (by have := h.2.1.lt; omega) (fun e => by have := (hlt x e.symm).1; omega)), ⟨⟨hg.os.trans h.2.2.1.os, hg.tape.trans h.2.2.1.tape, hg.output.trans h.2.2.1.output, Nat.le_trans h.2.2.1.size hg.size, fun i hi hne => ?_⟩, fun s x hs => ?_⟩, hbB, Nat.le_trans h.2.2.2.2 hg.size⟩
  · exact (hg.block i (Nat.lt_of_lt_of_le hi h.2.2.1.size) (fun e => by have := (hlt i e.symm).1; omega)).trans (h.2.2.1.block i hi hne)
  · obtain ⟨x', hx'⟩ := h.2.2.1.src s x hs
    exact ⟨x', (hg.block b (by have := h.2.1.lt; omega) (fun e => by have := (hlt b e.symm).1; omega)).trans hx'⟩
theorem TreeS.set {g : Nat} (h : TreeS B b M w (some ⟨g, 0, none⟩) k c es wr) (hw : w.heap.size ≤ B) (i d : Nat) (hi : i < k) (hd : d < 6) (e' : Ent) (v : Value) (he : (es.getD i E0).cells.set d v = e'.cells) :
    TreeS B b M w (some ⟨g, 0, none⟩) k c (es.set i e') (wr.setCell ⟨g, i * 6 + d, none⟩ v) := h.append hw (h.1.set i d hi hd e' v he) (grown_set wr g _ v)
theorem TreeS.rd (h : TreeS B b M w A k c es wr) : Rd wr b M := h.2.1
theorem TreeS.some_ (h : TreeS B b M w A k c es wr) (hk : 0 < k) : ∃ g : Nat, A = some ⟨g, 0, none⟩ ∧ B ≤ g ∧ g < wr.heap.size ∧ (∀ i, i < k → EntCells wr g (i * 6) (es.getD i E0)) ∧ (∀ j, wr.frozen? ⟨g, j, none⟩ = false) := h.1.ento.at_ hk
end
theorem TreeS.cap0 {B b M k c g i : Nat} {w wr : World} {es : List Ent} (h : TreeS B b M w (some ⟨g, 0, none⟩) k c es wr) (hw : w.heap.size ≤ B) (hi : i < k) :
    TreeS B b M w (some ⟨g, 0, none⟩) k c (es.set i { es.getD i E0 with k := 0, o := 0, r := 0, b := 0 }) ((((wr.setCell ⟨g, i * 6, none⟩ (.int .i64 0)).setCell ⟨g, i * 6 + 1, none⟩ (.int .i64 0)).setCell ⟨g, i * 6 + 2, none⟩ (.int .i64 0)).setCell ⟨g, i * 6 + 3, none⟩ (.int .i64 0)) := by
  have hl := h.1.len
  have at_ : ∀ (l : List Ent) (x : Ent), l.length = k → (l.set i x).getD i E0 = x := fun l x hl => by simp [List.getD, hl, hi]
  obtain ⟨k0, o, r, b0, p, q, hx⟩ : ∃ k o r b p q, es.getD i E0 = ⟨k, o, r, b, p, q⟩ := ⟨_, _, _, _, _, _, rfl⟩
  have h1 := h.set hw i 0 hi (by omega) ⟨0, o, r, b0, p, q⟩ (.int .i64 0) (by rw [hx]; rfl)
  have h2 := h1.set hw i 1 hi (by omega) ⟨0, 0, r, b0, p, q⟩ (.int .i64 0) (by rw [at_ _ _ hl]; rfl)
  have h3 := h2.set hw i 2 hi (by omega) ⟨0, 0, 0, b0, p, q⟩ (.int .i64 0) (by rw [at_ _ _ h1.1.len]; rfl)
  have h4 := h3.set hw i 3 hi (by omega) ⟨0, 0, 0, 0, p, q⟩ (.int .i64 0) (by rw [at_ _ _ h2.1.len]; rfl)
  rw [hx]
  simpa only [List.set_set, Nat.add_zero] using h4
def lenOf : Value → Nat
  | .slice _ n _ => n
  | _ => 0
def TreeD (M B b : Nat) (w : World) (dv : Value) (wr : World) : Prop := ∃ (A : Option Addr) (k c : Nat) (es : List Ent), dv = .slice A k c ∧ 0 < k ∧ k ≤ 60 ∧ TreeS B b M w A k c es wr
def DrawnTree (b m : Nat) (w : World) (e : Ending) (w' : World) : Prop := ∃ (A : Option Addr) (k c : Nat) (es : List Ent), e = .returned (.slice A k c) ∧ OwnE w' w.heap.size A k c es ∧ k ≤ 60 ∧ Rd w' b m ∧ Only b w w'
def TreeR (m B b : Nat) (w : World) (dv kv : Value) (wr : World) : Prop := ∃ (kk : Int) (M : Nat) (A : Option Addr) (k c : Nat) (es : List Ent), 0 ≤ kk ∧ kk ≤ 13 ∧ kv = .int .i64 kk ∧ dv = .slice A k c ∧ (k : Int) + kk ≤ 13 ∧ M + 10000 * kk.toNat ≤ m + 150000 ∧ TreeS B b M w A k c es wr

def tree9V (b : Nat) (S : Nat) (A : Option Addr) (k c : Nat) (y : Int) : Nat → Value → World → Prop
  | 0, v, w => v = .slice A k c
  | 1, v, w => v = .int .i64 y
  | 2, v, w => v = .pointer (some ⟨b, 0, none⟩)
  | 3, v, w => ∃ i : Int, v = .int .i64 i ∧ 0 ≤ i ∧ i < 16
  | 4, v, w => ∃ (g : Nat) (xs : List Int), v = .slice (some ⟨g, 0, none⟩) 3 3 ∧ IntsAt w g xs ∧ xs.length = 3
  | 5, v, w => v = .pointer (some ⟨b, 0, none⟩)
  | 6, v, w => ∃ i : Int, v = .int .i64 i ∧ 0 ≤ i ∧ i < 3
  | 7, v, w => ∃ (g i : Nat) (xs : List Int), v = .pointer (some ⟨g, i, none⟩) ∧ IntsAt w g xs ∧ i < xs.length
  | 8, v, w => ∃ i : Int, v = .int .i64 i
  | 9, v, w => v = .pointer (some ⟨b, 0, none⟩)
  | 10, v, w => ∃ i : Int, v = .int .i64 i ∧ 0 ≤ i ∧ i < 4
  | 11, v, w => ∃ i : Int, v = .int .i64 i
  | 12, v, w => ∃ (g : Nat) (xs : List Int), v = .slice (some ⟨g, 0, none⟩) 3 3 ∧ IntsAt w g xs ∧ xs.length = 3
  | 13, v, w => v = .pointer (some ⟨b, 0, none⟩)
  | 14, v, w => ∃ i : Int, v = .int .i64 i ∧ 0 ≤ i ∧ i < 3
  | 15, v, w => ∃ (g i : Nat) (xs : List Int), v = .pointer (some ⟨g, i, none⟩) ∧ IntsAt w g xs ∧ i < xs.length
  | 16, v, w => ∃ i : Int, v = .int .i64 i
  | 17, v, w => ∃ (A2 : Option Addr) (c2 : Nat) (es2 : List Ent) (N : Int) (t : Bool), v = .tuple #[.slice A2 es2.length c2, .int .i64 N, .bool t] ∧ OwnE w S A2 es2.length c2 es2 ∧ b < S ∧ es2.length ≤ k + 1
  | 18, v, w => ∃ (A2 : Option Addr) (c2 : Nat) (es2 : List Ent) (N : Int) (t : Bool), v = .tuple #[.slice A2 es2.length c2, .int .i64 N, .bool t] ∧ OwnE w S A2 es2.length c2 es2 ∧ b < S ∧ es2.length ≤ k + 1
  | 19, v, w => ∃ (A2 : Option Addr) (c2 : Nat) (es2 : List Ent), v = .slice A2 es2.length c2 ∧ OwnE w S A2 es2.length c2 es2 ∧ b < S ∧ es2.length ≤ k + 1
  | 20, v, w => True
  | 21, v, w => True
  | 22, v, w => ∃ (A2 : Option Addr) (c2 : Nat) (es2 : List Ent), v = .slice A2 es2.length c2 ∧ OwnE w S A2 es2.length c2 es2 ∧ b < S ∧ es2.length ≤ k + 1
  | _, _, _ => True
theorem tree9V_le (b : Nat) (S : Nat) (A : Option Addr) (k c : Nat) (y : Int) : ∀ j u w w', LeO b w w' → tree9V b S A k c y j u w → tree9V b S A k c y j u w' := by
  intro j u w w' hl h
  unfold tree9V at h ⊢
  split at h <;> first
    | exact h
    | (obtain ⟨g, xs, h1, h2, h3⟩ := h; exact ⟨g, xs, h1, h2.le hl.2, h3⟩)
    | (obtain ⟨g, i, xs, h1, h2, h3⟩ := h; exact ⟨g, i, xs, h1, h2.le hl.2, h3⟩)
    | (obtain ⟨A2, c2, es2, N, t, h1, h2, h3, h4⟩ := h; exact ⟨A2, c2, es2, N, t, h1, h2.only hl.1 h3, h3, h4⟩)
    | (obtain ⟨A2, c2, es2, h1, h2, h3, h4⟩ := h; exact ⟨A2, c2, es2, h1, h2.only hl.1 h3, h3, h4⟩)

set_option maxRecDepth 100000 in
set_option maxHeartbeats 32000000 in
theorem tree_any (n : Int) (b m : Nat) (w : World) (hm : m ≤ 700000000) (h : Rd w b m) (hn : n ≤ 1000000) :
    Calls Try.prog 64 #[.pointer (some ⟨b, 0, none⟩), .int .i64 n] w (DrawnTree b (m + 200000) w) := by
  obtain ⟨i0, hi, hz0, hz1, hz2⟩ := info_parts entry_info
  have HI0 := Lib.hid (And.intro hi (And.intro hz0 (And.intro hz1 hz2)))
  have hT0 : TreeS w.heap.size b m w (some ⟨w.heap.size, 0, none⟩) 0 0 [] (w.alloc (.cells #[] 48)) :=
    ⟨World.ownsRow_lit (base := w.heap.size) (e := 48) (size := 6) w #[] 0 (by simp) (by decide) rfl, h.alloc _, (Only.refl _ _).alloc _, h.lt, by simp⟩
  have HT0 := Lib.hid hT0
  have hbw := h.lt
  clear hi hz0 hz1 hz2 h hT0
  go_enter Try.func64, Try.ntmps64
  go_wp2_with fail
  refine (pick_any _ _ _ _ (by omega) HT0.out.rd).mono ?_
  rintro e w1 ⟨s0, rfl, p0, p1, hR1, hO1⟩
  have HT1 := Lib.hid (HT0.out.pick hR1 hO1)
  have p1' := p1 (by omega)
  clear hR1 hO1 HT0 p1
  go_wp2_with fail
  generalize hSS : w.heap.size = S at *
  have HSS := Lib.hid hSS
  have hwS : w.heap.size ≤ S := by omega
  clear hSS
  go_loopw [5, 6] (fun dv kv wr => TreeR m S b w dv kv wr) (fun _ kv _ => (intOf kv).toNat)
  case atStart => exact ⟨s0, _, _, _, _, _, p0, by omega, rfl, rfl, by simp; omega, by omega, HT1.out⟩
  case round =>
    clear HT1 p0 p1'
    obtain ⟨kk, M, A, k, c, es, kk0, kk1, rfl, rfl, hkk, hM, hT⟩ := hrel
    have HT := Lib.hid hT
    clear hT
    have hk60 : k ≤ 13 := by omega
    by_cases hpos : 0 < kk
    · go_wp2_with fail
      refine (pick_any _ _ _ _ (by omega) HT.out.rd).mono ?_
      rintro e w1 ⟨s, rfl, q0, q1, hR1, hO1⟩
      have hT1 := HT.out.pick hR1 hO1
      have q1' := q1 (by omega)
      clear hR1 hO1 HT q1
      have HT := Lib.hid hT1
      clear hT1
      by_cases hs0 : s = 0
      · subst hs0
        clear q0 q1'
        go_wp2_with fail
        refine (pick_any _ _ _ _ (by omega) HT.out.rd).mono ?_
        rintro e w2 ⟨x, rfl, x0, x1, hR2, hO2⟩
        have hT2 := HT.out.pick hR2 hO2
        have hTA := hT2.alloc (.cells #[.int .i64 4, .int .i64 x, .int .i64 15, .int .i64 0, .int .i64 (-1), .bool false] 48)
        have ho := hTA.1
        unfold OwnE at ho
        have hws := hT2.2.2.2.2
        obtain ⟨hi, hz0, hz1, hz2⟩ := HI0.out
        clear hR2 hO2 hT2 HT x1 HI0
        go_wp2_with (at_builtin; refine wpList_append_own _ rfl _ _ 25 rfl S 48 i0 _ 6 48 Try.underlying25 hi hz0 hz1 hz2 rfl (by decide) _ k (flat es) rfl ho ⟨w2.heap.size, 0, none⟩ 1 1 [.int .i64 4, .int .i64 x, .int .i64 15, .int .i64 0, .int .i64 (-1), .bool false] rfl rfl ?qc2 ?qc3 ?qc4 ?qc5 ?qc6 ?_)
        case qc2 => exact news_six (by simp)
        case qc3 =>
          intro u hu
          simp only [List.mem_cons, List.not_mem_nil, or_false] at hu
          rcases hu with rfl | rfl | rfl | rfl | rfl | rfl <;> rfl
        case qc4 => simp only [maxLen]; omega
        case qc5 => omega
        case qc6 => simp only [World.size_alloc]; omega
        intro v' w4 hown hgrow _
        obtain ⟨A4, c4, rfl⟩ := own_form_e hown
        have hO4 : OwnE w4 S A4 (k + 1) c4 (es ++ [⟨4, x, 15, 0, -1, false⟩]) := by
          unfold OwnE
          rw [flat_append]
          exact hown
        have hT4 := hTA.append hwS hO4 hgrow
        have HT4 := Lib.hid hT4
        clear hown hgrow hO4 hT4 hTA ho
        clear hi hz0 hz1 hz2
        go_wp2_with fail
        go_roundw
        case rel => exact ⟨kk - 1, _, A4, k + 1, c4, _, by omega, by omega, by go_num, rfl, by omega, by omega, HT4.out⟩
        case measure => simp [intOf]; omega
      · have hs0b : (s == 0) = false := by rw [beq_eq_false_iff_ne]; exact hs0
        by_cases hs1 : s = 1
        · subst hs1
          clear q0 q1' hs0 hs0b
          by_cases hk0 : 0 < k
          · have hk0' : (0 : Int) < (k : Int) := by omega
            go_wp2_with fail
            refine (pick_any _ _ _ _ (by omega) HT.out.rd).mono ?_
            rintro e w2 ⟨y, rfl, y0, y1, hR2, hO2⟩
            have hT2 := HT.out.pick hR2 hO2
            have y1' := y1 (by omega)
            clear hR2 hO2 HT y1
            obtain ⟨i, rfl⟩ := Int.eq_ofNat_of_zero_le y0
            have hik : i < k := by omega
            obtain ⟨g, rfl, hgB, hgl, hcells, hfr⟩ := hT2.some_ hk0
            obtain ⟨k1, o1, r1, b1, p1, q1, hx⟩ : ∃ k o r b p q, es.getD i E0 = ⟨k, o, r, b, p, q⟩ := ⟨_, _, _, _, _, _, rfl⟩
            have hci := hcells i hik
            rw [hx] at hci
            obtain ⟨a0, a1, a2, a3, a4, a5⟩ := hci
            have HT := Lib.hid hT2
            clear hcells hx hT2 hfr
            cases q1
            · have hrem := spec_RemoveCap (some ⟨g, 0, none⟩) k c _ es i w2 HT.out.1.ento (by omega)
              have hle := remL_len es i
              have hel := HT.out.1.len
              clear a0 a1 a2 a3 a4
              go_wp2_with fail
              refine hrem.mono ?_
              rintro e w3 ⟨A3, c3, rfl, hO3, hb3⟩
              have HT3 := Lib.hid (HT.out.other hO3 hb3)
              clear hrem hO3 hb3 HT a5
              generalize (remL es i).length = k3 at *
              go_wp2_with fail
              go_roundw
              case rel => exact ⟨kk - 1, _, A3, k3, c3, _, by omega, by omega, by go_num, rfl, by omega, by omega, HT3.out⟩
              case measure => simp [intOf]; omega
            · go_wp2_with fail
              go_roundw
              case rel => exact ⟨kk - 1, _, _, k, c, es, by omega, by omega, by go_num, rfl, by omega, by omega, HT.out⟩
              case measure => simp [intOf]; omega
          · have hk0' : ¬ (0 : Int) < (k : Int) := by omega
            go_wp2_with fail
            go_roundw
            case rel => exact ⟨kk - 1, _, A, k, c, es, by omega, by omega, by go_num, rfl, by omega, by omega, HT.out⟩
            case measure => simp [intOf]; omega
        · have hs1b : (s == 1) = false := by rw [beq_eq_false_iff_ne]; exact hs1
          by_cases hk0 : 0 < k
          · have hk0' : (0 : Int) < (k : Int) := by omega
            go_wp2_with fail
            refine (pick_any _ _ _ _ (by omega) HT.out.rd).mono ?_
            rintro e w2 ⟨y, rfl, y0, y1, hR2, hO2⟩
            have hT2 := HT.out.pick hR2 hO2
            have y1' := y1 (by omega)
            clear hR2 hO2 HT y1
            obtain ⟨i, rfl⟩ := Int.eq_ofNat_of_zero_le y0
            have hik : i < k := by omega
            obtain ⟨g, rfl, hgB, hgl, hcells, hfr⟩ := hT2.some_ hk0
            obtain ⟨k1, o1, r1, b1, p1, q1, hx⟩ : ∃ k o r b p q, es.getD i E0 = ⟨k, o, r, b, p, q⟩ := ⟨_, _, _, _, _, _, rfl⟩
            have hci := hcells i hik
            rw [hx] at hci
            obtain ⟨a0, a1, a2, a3, a4, a5⟩ := hci
            have HT := Lib.hid hT2
            clear hcells hx hT2 hfr
            cases q1
            · clear a0 a1 a2 a3 a4
              go_wp2_with fail
              have hT := HT.out.drew
              have hE : OwnE w2.drew S (some ⟨g, 0, none⟩) k c es := hT.1
              have hbS := hT.2.2.2.1
              have hsz0 := hT.2.2.2.2
              generalize hYY : (i : Int) = y at *
              generalize hAA : (some (⟨g, 0, none⟩ : Addr)) = A at *
              clear hYY hAA HT
              refine wp_region_inv3 (tree9V b S A k c y) (TG S b (M + 1 + 1) 23 w2.drew w2.drew) (LeO b) (by kernel_rfl) (by kernel_rfl) (by kernel_rfl) (tree9V_le _ _ _ _ _ _) (⟨hT.2.1.more (by omega), Only.refl _ _⟩) ⟨?o0, ?o1, ?o2, ?o3, ?o4, ?o5, ?o6, ?o7, ?o8, ?o9, ?o10, ?o11, ?o12, ?o13, ?o14, ?o15, ?o16, ?o17, ?o18, ?o19, ?o20, ?o21, ?o22, trivial⟩ ?hfin
              case o0 =>
                intro f a w K hF hA hsz hG hK
                rw [if_pos (by rfl)]
                have hsz : f + 1 ≤ 23 := hsz
                have hsz2 := hsz
                have e5 : a.tmps[5]?.getD undef = .slice A k c := slot_of (hF 5 (by kernel_rfl)) rfl
                clear hF hA
                unfold Oper.wp execOp
                go_simp
                exact hK _ _ (fun _ => rfl) (hG.keep) (LeO.refl _ _)
              case o1 =>
                intro f a w K hF hA hsz hG hK
                rw [if_pos (by rfl)]
                have hsz : f + 1 ≤ 23 := hsz
                have hsz2 := hsz
                have e8 : a.tmps[8]?.getD undef = .int .i64 y := slot_of (hF 8 (by kernel_rfl)) rfl
                clear hF hA
                unfold Oper.wp execOp
                go_simp
                exact hK _ _ (fun _ => rfl) (hG.keep) (LeO.refl _ _)
              case o2 =>
                intro f a w K hF hA hsz hG hK
                rw [if_pos (by rfl)]
                have hsz : f + 1 ≤ 23 := hsz
                have hsz2 := hsz
                have e0 : a.tmps[0]?.getD undef = .pointer (some ⟨b, 0, none⟩) := slot_of (hF 0 (by kernel_rfl)) rfl
                clear hF hA
                unfold Oper.wp execOp
                go_simp
                exact hK _ _ (fun _ => rfl) (hG.keep) (LeO.refl _ _)
              case o3 =>
                intro f a w K hF hA hsz hG hK
                rw [if_pos (by rfl)]
                have hsz : f + 1 ≤ 23 := hsz
                have hsz2 := hsz
                have p35 : tree9V b S A k c y 2 (a.eval (.tmp 35)) w := hA ⟨2, .data⟩ (by simp) rfl _ rfl (by simp)
                have q35 : a.eval (.tmp 35) = _ := p35
                have e35 := slot_eq q35
                clear q35
                clear hF hA
                unfold Oper.wp execOp
                go_simp
                refine (pick_any _ _ _ _ (by omega) hG.rd).mono ?_
                rintro e w1 ⟨i, rfl, h0, h1, hR1, hO1⟩
                exact hK _ _ (fun _ => ⟨i, rfl, h0, h1 (by omega)⟩) (hG.step hR1 (by omega) hO1) (LeO.only hO1 hG.rd hR1)
              case o4 =>
                intro f a w K hF hA hsz hG hK
                rw [if_pos (by rfl)]
                have hsz : f + 1 ≤ 23 := hsz
                have hsz2 := hsz
                have p36 : tree9V b S A k c y 3 (a.eval (.tmp 36)) w := hA ⟨3, .data⟩ (by simp) rfl _ rfl (by simp)
                obtain ⟨i36, q36, hl36, hh36⟩ := p36
                have e36 := slot_eq q36
                clear q36
                clear hF hA
                unfold Oper.wp execOp
                go_simp
                exact hK _ _ (fun _ => ⟨_, _, rfl, IntsAt.new w [_, _, _], rfl⟩) (hG.alloc _) (LeO.alloc _ _ _)
              case o5 =>
                intro f a w K hF hA hsz hG hK
                rw [if_pos (by rfl)]
                have hsz : f + 1 ≤ 23 := hsz
                have hsz2 := hsz
                have e0 : a.tmps[0]?.getD undef = .pointer (some ⟨b, 0, none⟩) := slot_of (hF 0 (by kernel_rfl)) rfl
                clear hF hA
                unfold Oper.wp execOp
                go_simp
                exact hK _ _ (fun _ => rfl) (hG.keep) (LeO.refl _ _)
              case o6 =>
                intro f a w K hF hA hsz hG hK
                rw [if_pos (by rfl)]
                have hsz : f + 1 ≤ 23 := hsz
                have hsz2 := hsz
                have p38 : tree9V b S A k c y 5 (a.eval (.tmp 38)) w := hA ⟨5, .data⟩ (by simp) rfl _ rfl (by simp)
                have q38 : a.eval (.tmp 38) = _ := p38
                have e38 := slot_eq q38
                clear q38
                clear hF hA
                unfold Oper.wp execOp
                go_simp
                refine (pick_any _ _ _ _ (by omega) hG.rd).mono ?_
                rintro e w1 ⟨i, rfl, h0, h1, hR1, hO1⟩
                exact hK _ _ (fun _ => ⟨i, rfl, h0, h1 (by omega)⟩) (hG.step hR1 (by omega) hO1) (LeO.only hO1 hG.rd hR1)
              case o7 =>
                intro f a w K hF hA hsz hG hK
                rw [if_pos (by rfl)]
                have hsz : f + 1 ≤ 23 := hsz
                have hsz2 := hsz
                have p37 : tree9V b S A k c y 4 (a.eval (.tmp 37)) w := hA ⟨4, .data⟩ (by simp) rfl _ rfl (by simp)
                obtain ⟨g37, xs37, q37, hx37, hn37⟩ := p37
                have e37 := slot_eq q37
                have p39 : tree9V b S A k c y 6 (a.eval (.tmp 39)) w := hA ⟨6, .data⟩ (by simp) rfl _ rfl (by simp)
                obtain ⟨i39, q39, hl39, hh39⟩ := p39
                have e39 := slot_eq q39
                clear q37 q39
                clear hF hA
                unfold Oper.wp execOp
                go_simp
                exact hK _ _ (fun _ => ⟨g37, (i39).toNat, _, rfl, hx37, by omega⟩) (hG.keep) (LeO.refl _ _)
              case o8 =>
                intro f a w K hF hA hsz hG hK
                rw [if_pos (by rfl)]
                have hsz : f + 1 ≤ 23 := hsz
                have hsz2 := hsz
                have p40 : tree9V b S A k c y 7 (a.eval (.tmp 40)) w := hA ⟨7, .data⟩ (by simp) rfl _ rfl (by simp)
                obtain ⟨g40, j40, xs40, q40, hx40, hj40⟩ := p40
                have e40 := slot_eq q40
                clear q40
                have cc := hx40.cell hj40
                clear hF hA
                unfold Oper.wp execOp
                go_simp
                exact hK _ _ (fun _ => ⟨_, rfl⟩) (hG.keep) (LeO.refl _ _)
              case o9 =>
                intro f a w K hF hA hsz hG hK
                rw [if_pos (by rfl)]
                have hsz : f + 1 ≤ 23 := hsz
                have hsz2 := hsz
                have e0 : a.tmps[0]?.getD undef = .pointer (some ⟨b, 0, none⟩) := slot_of (hF 0 (by kernel_rfl)) rfl
                clear hF hA
                unfold Oper.wp execOp
                go_simp
                exact hK _ _ (fun _ => rfl) (hG.keep) (LeO.refl _ _)
              case o10 =>
                intro f a w K hF hA hsz hG hK
                rw [if_pos (by rfl)]
                have hsz : f + 1 ≤ 23 := hsz
                have hsz2 := hsz
                have p42 : tree9V b S A k c y 9 (a.eval (.tmp 42)) w := hA ⟨9, .data⟩ (by simp) rfl _ rfl (by simp)
                have q42 : a.eval (.tmp 42) = _ := p42
                have e42 := slot_eq q42
                clear q42
                clear hF hA
                unfold Oper.wp execOp
                go_simp
                refine (pick_any _ _ _ _ (by omega) hG.rd).mono ?_
                rintro e w1 ⟨i, rfl, h0, h1, hR1, hO1⟩
                exact hK _ _ (fun _ => ⟨i, rfl, h0, h1 (by omega)⟩) (hG.step hR1 (by omega) hO1) (LeO.only hO1 hG.rd hR1)
              case o11 =>
                intro f a w K hF hA hsz hG hK
                rw [if_pos (by rfl)]
                have hsz : f + 1 ≤ 23 := hsz
                have hsz2 := hsz
                have p43 : tree9V b S A k c y 10 (a.eval (.tmp 43)) w := hA ⟨10, .data⟩ (by simp) rfl _ rfl (by simp)
                obtain ⟨i43, q43, hl43, hh43⟩ := p43
                have e43 := slot_eq q43
                clear q43
                clear hF hA
                unfold Oper.wp execOp
                go_simp
                exact hK _ _ (fun _ => ⟨_, rfl⟩) (hG.keep) (LeO.refl _ _)
              case o12 =>
                intro f a w K hF hA hsz hG hK
                rw [if_pos (by rfl)]
                have hsz : f + 1 ≤ 23 := hsz
                have hsz2 := hsz
                have p44 : tree9V b S A k c y 11 (a.eval (.tmp 44)) w := hA ⟨11, .data⟩ (by simp) rfl _ rfl (by simp)
                obtain ⟨i44, q44⟩ := p44
                have e44 := slot_eq q44
                clear q44
                clear hF hA
                unfold Oper.wp execOp
                go_simp
                exact hK _ _ (fun _ => ⟨_, _, rfl, IntsAt.new w [_, _, _], rfl⟩) (hG.alloc _) (LeO.alloc _ _ _)
              case o13 =>
                intro f a w K hF hA hsz hG hK
                rw [if_pos (by rfl)]
                have hsz : f + 1 ≤ 23 := hsz
                have hsz2 := hsz
                have e0 : a.tmps[0]?.getD undef = .pointer (some ⟨b, 0, none⟩) := slot_of (hF 0 (by kernel_rfl)) rfl
                clear hF hA
                unfold Oper.wp execOp
                go_simp
                exact hK _ _ (fun _ => rfl) (hG.keep) (LeO.refl _ _)
              case o14 =>
                intro f a w K hF hA hsz hG hK
                rw [if_pos (by rfl)]
                have hsz : f + 1 ≤ 23 := hsz
                have hsz2 := hsz
                have p46 : tree9V b S A k c y 13 (a.eval (.tmp 46)) w := hA ⟨13, .data⟩ (by simp) rfl _ rfl (by simp)
                have q46 : a.eval (.tmp 46) = _ := p46
                have e46 := slot_eq q46
                clear q46
                clear hF hA
                unfold Oper.wp execOp
                go_simp
                refine (pick_any _ _ _ _ (by omega) hG.rd).mono ?_
                rintro e w1 ⟨i, rfl, h0, h1, hR1, hO1⟩
                exact hK _ _ (fun _ => ⟨i, rfl, h0, h1 (by omega)⟩) (hG.step hR1 (by omega) hO1) (LeO.only hO1 hG.rd hR1)
              case o15 =>
                intro f a w K hF hA hsz hG hK
                rw [if_pos (by rfl)]
                have hsz : f + 1 ≤ 23 := hsz
                have hsz2 := hsz
                have p45 : tree9V b S A k c y 12 (a.eval (.tmp 45)) w := hA ⟨12, .data⟩ (by simp) rfl _ rfl (by simp)
                obtain ⟨g45, xs45, q45, hx45, hn45⟩ := p45
                have e45 := slot_eq q45
                have p47 : tree9V b S A k c y 14 (a.eval (.tmp 47)) w := hA ⟨14, .data⟩ (by simp) rfl _ rfl (by simp)
                obtain ⟨i47, q47, hl47, hh47⟩ := p47
                have e47 := slot_eq q47
                clear q45 q47
                clear hF hA
                unfold Oper.wp execOp
                go_simp
                exact hK _ _ (fun _ => ⟨g45, (i47).toNat, _, rfl, hx45, by omega⟩) (hG.keep) (LeO.refl _ _)
              case o16 =>
                intro f a w K hF hA hsz hG hK
                rw [if_pos (by rfl)]
                have hsz : f + 1 ≤ 23 := hsz
                have hsz2 := hsz
                have p48 : tree9V b S A k c y 15 (a.eval (.tmp 48)) w := hA ⟨15, .data⟩ (by simp) rfl _ rfl (by simp)
                obtain ⟨g48, j48, xs48, q48, hx48, hj48⟩ := p48
                have e48 := slot_eq q48
                clear q48
                have cc := hx48.cell hj48
                clear hF hA
                unfold Oper.wp execOp
                go_simp
                exact hK _ _ (fun _ => ⟨_, rfl⟩) (hG.keep) (LeO.refl _ _)
              case o17 =>
                intro f a w K hF hA hsz hG hK
                rw [if_pos (by rfl)]
                have hsz : f + 1 ≤ 23 := hsz
                have hsz2 := hsz
                have p33 : tree9V b S A k c y 0 (a.eval (.tmp 33)) w := hA ⟨0, .data⟩ (by simp) rfl _ rfl (by simp)
                have q33 : a.eval (.tmp 33) = _ := p33
                have e33 := slot_eq q33
                have p34 : tree9V b S A k c y 1 (a.eval (.tmp 34)) w := hA ⟨1, .data⟩ (by simp) rfl _ rfl (by simp)
                have q34 : a.eval (.tmp 34) = _ := p34
                have e34 := slot_eq q34
                have p41 : tree9V b S A k c y 8 (a.eval (.tmp 41)) w := hA ⟨8, .data⟩ (by simp) rfl _ rfl (by simp)
                obtain ⟨i41, q41⟩ := p41
                have e41 := slot_eq q41
                have p49 : tree9V b S A k c y 16 (a.eval (.tmp 49)) w := hA ⟨16, .data⟩ (by simp) rfl _ rfl (by simp)
                obtain ⟨i49, q49⟩ := p49
                have e49 := slot_eq q49
                clear q33 q34 q41 q49
                clear hF hA
                unfold Oper.wp execOp
                go_simp
                refine (spec_DeriveCap _ _ _ _ es y _ _ _ ((hE.only hG.only (by omega)).ento) (by omega)).mono ?_
                rintro e w1 ⟨A2, c2, rfl, hO2, hb2⟩
                exact hK _ _ (fun _ => ⟨A2, c2, _, _, _, rfl, hO2.more (by have := hG.only.size; omega), hbS, by have := derL_len es y i41 i49; have := hE.len; omega⟩) (hG.below hb2) (LeO.below hb2)
              case o18 =>
                intro f a w K hF hA hsz hG hK
                rw [if_pos (by rfl)]
                have hsz : f + 1 ≤ 23 := hsz
                have hsz2 := hsz
                have p50 : tree9V b S A k c y 17 (a.eval (.tmp 50)) w := hA ⟨17, .data⟩ (by simp) rfl _ rfl (by simp)
                obtain ⟨A50, c50, es50, N50, t50, q50, ho50, hb50, hl50⟩ := p50
                have e50 := slot_eq q50
                clear q50
                clear hF hA
                unfold Oper.wp execOp
                go_simp
                exact hK _ _ (fun _ => ⟨A50, c50, es50, N50, t50, rfl, ho50, hb50, hl50⟩) (hG.keep) (LeO.refl _ _)
              case o19 =>
                intro f a w K hF hA hsz hG hK
                rw [if_pos (by rfl)]
                have hsz : f + 1 ≤ 23 := hsz
                have hsz2 := hsz
                have p32 : tree9V b S A k c y 18 (a.eval (.tmp 32)) w := hA ⟨18, .data⟩ (by simp) rfl _ rfl (by simp)
                obtain ⟨A32, c32, es32, N32, t32, q32, ho32, hb32, hl32⟩ := p32
                have e32 := slot_eq q32
                clear q32
                clear hF hA
                unfold Oper.wp execOp
                go_simp
                exact hK _ _ (fun _ => ⟨A32, c32, es32, rfl, ho32, hb32, hl32⟩) (hG.keep) (LeO.refl _ _)
              case o20 =>
                intro f a w K hF hA hsz hG hK
                rw [if_pos (by rfl)]
                have hsz : f + 1 ≤ 23 := hsz
                have hsz2 := hsz
                have p32 : tree9V b S A k c y 18 (a.eval (.tmp 32)) w := hA ⟨18, .data⟩ (by simp) rfl _ rfl (by simp)
                obtain ⟨A32, c32, es32, N32, t32, q32, ho32, hb32, hl32⟩ := p32
                have e32 := slot_eq q32
                clear q32
                clear hF hA
                unfold Oper.wp execOp
                go_simp
                exact hK _ _ (fun _ => trivial) (hG.keep) (LeO.refl _ _)
              case o21 =>
                intro f a w K hF hA hsz hG hK
                rw [if_pos (by rfl)]
                have hsz : f + 1 ≤ 23 := hsz
                have hsz2 := hsz
                have p32 : tree9V b S A k c y 18 (a.eval (.tmp 32)) w := hA ⟨18, .data⟩ (by simp) rfl _ rfl (by simp)
                obtain ⟨A32, c32, es32, N32, t32, q32, ho32, hb32, hl32⟩ := p32
                have e32 := slot_eq q32
                clear q32
                clear hF hA
                unfold Oper.wp execOp
                go_simp
                exact hK _ _ (fun _ => trivial) (hG.keep) (LeO.refl _ _)
              case o22 =>
                intro f a w K hF hA hsz hG hK
                rw [if_pos (by rfl)]
                have hsz : f + 1 ≤ 23 := hsz
                have hsz2 := hsz
                have p51 : tree9V b S A k c y 19 (a.eval (.tmp 51)) w := hA ⟨19, .data⟩ (by simp) rfl _ rfl (by simp)
                obtain ⟨A51, c51, es51, q51, ho51, hb51, hl51⟩ := p51
                have e51 := slot_eq q51
                clear q51
                clear hF hA
                unfold Oper.wp execOp
                go_simp
                exact hK _ _ (fun _ => ⟨A51, c51, es51, rfl, ho51, hb51, hl51⟩) (hG.keep) (LeO.refl _ _)
              case hfin =>
                intro f a w' hdef hsize hF hv hG
                have p5 : tree9V b S A k c y 22 (a.eval (.tmp 5)) w' := hv 22 _ rfl (by simp)
                obtain ⟨A5, c5, es5, q5, ho5, hb5, hl5⟩ := p5
                have q0 : a.eval (.tmp 0) = .pointer (some ⟨b, 0, none⟩) := (hF 0 (by kernel_rfl)).trans rfl
                have q1 : a.eval (.tmp 1) = .int .i64 n := (hF 1 (by kernel_rfl)).trans rfl
                have q2 : a.eval (.tmp 2) = undef := (hF 2 (by kernel_rfl)).trans rfl
                have q3 : a.eval (.tmp 3) = undef := (hF 3 (by kernel_rfl)).trans rfl
                have q4 : a.eval (.tmp 4) = .slice none 0 0 := (hF 4 (by kernel_rfl)).trans rfl
                have q6 : a.eval (.tmp 6) = .int .i64 kk := (hF 6 (by kernel_rfl)).trans rfl
                have q9 : a.eval (.tmp 9) = undef := (hF 9 (by kernel_rfl)).trans rfl
                have q10 : a.eval (.tmp 10) = .slice (some ⟨S, 0, none⟩) 0 0 := (hF 10 (by kernel_rfl)).trans rfl
                have q11 : a.eval (.tmp 11) = .pointer (some ⟨b, 0, none⟩) := (hF 11 (by kernel_rfl)).trans rfl
                have q12 : a.eval (.tmp 12) = .int .i64 s0 := (hF 12 (by kernel_rfl)).trans rfl
                have q81 : a.eval (.tmp 81) = undef := (hF 81 (by kernel_rfl)).trans rfl
                have q82 : a.eval (.tmp 82) = undef := (hF 82 (by kernel_rfl)).trans rfl
                have q83 : a.eval (.tmp 83) = undef := (hF 83 (by kernel_rfl)).trans rfl
                have q84 : a.eval (.tmp 84) = undef := (hF 84 (by kernel_rfl)).trans rfl
                have q85 : a.eval (.tmp 85) = undef := (hF 85 (by kernel_rfl)).trans rfl
                have q86 : a.eval (.tmp 86) = undef := (hF 86 (by kernel_rfl)).trans rfl
                have q87 : a.eval (.tmp 87) = undef := (hF 87 (by kernel_rfl)).trans rfl
                have q88 : a.eval (.tmp 88) = undef := (hF 88 (by kernel_rfl)).trans rfl
                have q89 : a.eval (.tmp 89) = undef := (hF 89 (by kernel_rfl)).trans rfl
                have q90 : a.eval (.tmp 90) = undef := (hF 90 (by kernel_rfl)).trans rfl
                have q91 : a.eval (.tmp 91) = undef := (hF 91 (by kernel_rfl)).trans rfl
                have q92 : a.eval (.tmp 92) = undef := (hF 92 (by kernel_rfl)).trans rfl
                have q93 : a.eval (.tmp 93) = undef := (hF 93 (by kernel_rfl)).trans rfl
                have q94 : a.eval (.tmp 94) = undef := (hF 94 (by kernel_rfl)).trans rfl
                have q95 : a.eval (.tmp 95) = undef := (hF 95 (by kernel_rfl)).trans rfl
                have q96 : a.eval (.tmp 96) = undef := (hF 96 (by kernel_rfl)).trans rfl
                have q97 : a.eval (.tmp 97) = undef := (hF 97 (by kernel_rfl)).trans rfl
                have q98 : a.eval (.tmp 98) = undef := (hF 98 (by kernel_rfl)).trans rfl
                have q99 : a.eval (.tmp 99) = undef := (hF 99 (by kernel_rfl)).trans rfl
                have q100 : a.eval (.tmp 100) = undef := (hF 100 (by kernel_rfl)).trans rfl
                have q101 : a.eval (.tmp 101) = undef := (hF 101 (by kernel_rfl)).trans rfl
                have q102 : a.eval (.tmp 102) = undef := (hF 102 (by kernel_rfl)).trans rfl
                have q103 : a.eval (.tmp 103) = undef := (hF 103 (by kernel_rfl)).trans rfl
                have q104 : a.eval (.tmp 104) = undef := (hF 104 (by kernel_rfl)).trans rfl
                have q105 : a.eval (.tmp 105) = undef := (hF 105 (by kernel_rfl)).trans rfl
                have q106 : a.eval (.tmp 106) = undef := (hF 106 (by kernel_rfl)).trans rfl
                have q107 : a.eval (.tmp 107) = undef := (hF 107 (by kernel_rfl)).trans rfl
                have q108 : a.eval (.tmp 108) = undef := (hF 108 (by kernel_rfl)).trans rfl
                have q109 : a.eval (.tmp 109) = undef := (hF 109 (by kernel_rfl)).trans rfl
                have q110 : a.eval (.tmp 110) = undef := (hF 110 (by kernel_rfl)).trans rfl
                have q111 : a.eval (.tmp 111) = undef := (hF 111 (by kernel_rfl)).trans rfl
                have q112 : a.eval (.tmp 112) = undef := (hF 112 (by kernel_rfl)).trans rfl
                have q113 : a.eval (.tmp 113) = undef := (hF 113 (by kernel_rfl)).trans rfl
                have q114 : a.eval (.tmp 114) = undef := (hF 114 (by kernel_rfl)).trans rfl
                have q115 : a.eval (.tmp 115) = undef := (hF 115 (by kernel_rfl)).trans rfl
                have q116 : a.eval (.tmp 116) = undef := (hF 116 (by kernel_rfl)).trans rfl
                have q117 : a.eval (.tmp 117) = undef := (hF 117 (by kernel_rfl)).trans rfl
                have q118 : a.eval (.tmp 118) = undef := (hF 118 (by kernel_rfl)).trans rfl
                have q119 : a.eval (.tmp 119) = undef := (hF 119 (by kernel_rfl)).trans rfl
                have q120 : a.eval (.tmp 120) = undef := (hF 120 (by kernel_rfl)).trans rfl
                have q121 : a.eval (.tmp 121) = undef := (hF 121 (by kernel_rfl)).trans rfl
                have q122 : a.eval (.tmp 122) = undef := (hF 122 (by kernel_rfl)).trans rfl
                have q123 : a.eval (.tmp 123) = undef := (hF 123 (by kernel_rfl)).trans rfl
                have q124 : a.eval (.tmp 124) = undef := (hF 124 (by kernel_rfl)).trans rfl
                have q125 : a.eval (.tmp 125) = undef := (hF 125 (by kernel_rfl)).trans rfl
                have q126 : a.eval (.tmp 126) = undef := (hF 126 (by kernel_rfl)).trans rfl
                have q127 : a.eval (.tmp 127) = undef := (hF 127 (by kernel_rfl)).trans rfl
                have ha : a = ⟨#[a.eval (.tmp 0), a.eval (.tmp 1), a.eval (.tmp 2), a.eval (.tmp 3), a.eval (.tmp 4), a.eval (.tmp 5), a.eval (.tmp 6), a.eval (.tmp 7), a.eval (.tmp 8), a.eval (.tmp 9), a.eval (.tmp 10), a.eval (.tmp 11), a.eval (.tmp 12), a.eval (.tmp 13), a.eval (.tmp 14), a.eval (.tmp 15), a.eval (.tmp 16), a.eval (.tmp 17), a.eval (.tmp 18), a.eval (.tmp 19), a.eval (.tmp 20), a.eval (.tmp 21), a.eval (.tmp 22), a.eval (.tmp 23), a.eval (.tmp 24), a.eval (.tmp 25), a.eval (.tmp 26), a.eval (.tmp 27), a.eval (.tmp 28), a.eval (.tmp 29), a.eval (.tmp 30), a.eval (.tmp 31), a.eval (.tmp 32), a.eval (.tmp 33), a.eval (.tmp 34), a.eval (.tmp 35), a.eval (.tmp 36), a.eval (.tmp 37), a.eval (.tmp 38), a.eval (.tmp 39), a.eval (.tmp 40), a.eval (.tmp 41), a.eval (.tmp 42), a.eval (.tmp 43), a.eval (.tmp 44), a.eval (.tmp 45), a.eval (.tmp 46), a.eval (.tmp 47), a.eval (.tmp 48), a.eval (.tmp 49), a.eval (.tmp 50), a.eval (.tmp 51), a.eval (.tmp 52), a.eval (.tmp 53), a.eval (.tmp 54), a.eval (.tmp 55), a.eval (.tmp 56), a.eval (.tmp 57), a.eval (.tmp 58), a.eval (.tmp 59), a.eval (.tmp 60), a.eval (.tmp 61), a.eval (.tmp 62), a.eval (.tmp 63), a.eval (.tmp 64), a.eval (.tmp 65), a.eval (.tmp 66), a.eval (.tmp 67), a.eval (.tmp 68), a.eval (.tmp 69), a.eval (.tmp 70), a.eval (.tmp 71), a.eval (.tmp 72), a.eval (.tmp 73), a.eval (.tmp 74), a.eval (.tmp 75), a.eval (.tmp 76), a.eval (.tmp 77), a.eval (.tmp 78), a.eval (.tmp 79), a.eval (.tmp 80), a.eval (.tmp 81), a.eval (.tmp 82), a.eval (.tmp 83), a.eval (.tmp 84), a.eval (.tmp 85), a.eval (.tmp 86), a.eval (.tmp 87), a.eval (.tmp 88), a.eval (.tmp 89), a.eval (.tmp 90), a.eval (.tmp 91), a.eval (.tmp 92), a.eval (.tmp 93), a.eval (.tmp 94), a.eval (.tmp 95), a.eval (.tmp 96), a.eval (.tmp 97), a.eval (.tmp 98), a.eval (.tmp 99), a.eval (.tmp 100), a.eval (.tmp 101), a.eval (.tmp 102), a.eval (.tmp 103), a.eval (.tmp 104), a.eval (.tmp 105), a.eval (.tmp 106), a.eval (.tmp 107), a.eval (.tmp 108), a.eval (.tmp 109), a.eval (.tmp 110), a.eval (.tmp 111), a.eval (.tmp 112), a.eval (.tmp 113), a.eval (.tmp 114), a.eval (.tmp 115), a.eval (.tmp 116), a.eval (.tmp 117), a.eval (.tmp 118), a.eval (.tmp 119), a.eval (.tmp 120), a.eval (.tmp 121), a.eval (.tmp 122), a.eval (.tmp 123), a.eval (.tmp 124), a.eval (.tmp 125), a.eval (.tmp 126), a.eval (.tmp 127)], []⟩ := (act_lit a (n := 128) hsize).trans (by rw [hdef]; rfl)
                rw [q5, q0, q1, q2, q3, q4, q6, q9, q10, q11, q12, q81, q82, q83, q84, q85, q86, q87, q88, q89, q90, q91, q92, q93, q94, q95, q96, q97, q98, q99, q100, q101, q102, q103, q104, q105, q106, q107, q108, q109, q110, q111, q112, q113, q114, q115, q116, q117, q118, q119, q120, q121, q122, q123, q124, q125, q126, q127] at ha
                generalize a.eval (.tmp 7) = s7 at ha
                generalize a.eval (.tmp 8) = s8 at ha
                generalize a.eval (.tmp 13) = s13 at ha
                generalize a.eval (.tmp 14) = s14 at ha
                generalize a.eval (.tmp 15) = s15 at ha
                generalize a.eval (.tmp 16) = s16 at ha
                generalize a.eval (.tmp 17) = s17 at ha
                generalize a.eval (.tmp 18) = s18 at ha
                generalize a.eval (.tmp 19) = s19 at ha
                generalize a.eval (.tmp 20) = s20 at ha
                generalize a.eval (.tmp 21) = s21 at ha
                generalize a.eval (.tmp 22) = s22 at ha
                generalize a.eval (.tmp 23) = s23 at ha
                generalize a.eval (.tmp 24) = s24 at ha
                generalize a.eval (.tmp 25) = s25 at ha
                generalize a.eval (.tmp 26) = s26 at ha
                generalize a.eval (.tmp 27) = s27 at ha
                generalize a.eval (.tmp 28) = s28 at ha
                generalize a.eval (.tmp 29) = s29 at ha
                generalize a.eval (.tmp 30) = s30 at ha
                generalize a.eval (.tmp 31) = s31 at ha
                generalize a.eval (.tmp 32) = s32 at ha
                generalize a.eval (.tmp 33) = s33 at ha
                generalize a.eval (.tmp 34) = s34 at ha
                generalize a.eval (.tmp 35) = s35 at ha
                generalize a.eval (.tmp 36) = s36 at ha
                generalize a.eval (.tmp 37) = s37 at ha
                generalize a.eval (.tmp 38) = s38 at ha
                generalize a.eval (.tmp 39) = s39 at ha
                generalize a.eval (.tmp 40) = s40 at ha
                generalize a.eval (.tmp 41) = s41 at ha
                generalize a.eval (.tmp 42) = s42 at ha
                generalize a.eval (.tmp 43) = s43 at ha
                generalize a.eval (.tmp 44) = s44 at ha
                generalize a.eval (.tmp 45) = s45 at ha
                generalize a.eval (.tmp 46) = s46 at ha
                generalize a.eval (.tmp 47) = s47 at ha
                generalize a.eval (.tmp 48) = s48 at ha
                generalize a.eval (.tmp 49) = s49 at ha
                generalize a.eval (.tmp 50) = s50 at ha
                generalize a.eval (.tmp 51) = s51 at ha
                generalize a.eval (.tmp 52) = s52 at ha
                generalize a.eval (.tmp 53) = s53 at ha
                generalize a.eval (.tmp 54) = s54 at ha
                generalize a.eval (.tmp 55) = s55 at ha
                generalize a.eval (.tmp 56) = s56 at ha
                generalize a.eval (.tmp 57) = s57 at ha
                generalize a.eval (.tmp 58) = s58 at ha
                generalize a.eval (.tmp 59) = s59 at ha
                generalize a.eval (.tmp 60) = s60 at ha
                generalize a.eval (.tmp 61) = s61 at ha
                generalize a.eval (.tmp 62) = s62 at ha
                generalize a.eval (.tmp 63) = s63 at ha
                generalize a.eval (.tmp 64) = s64 at ha
                generalize a.eval (.tmp 65) = s65 at ha
                generalize a.eval (.tmp 66) = s66 at ha
                generalize a.eval (.tmp 67) = s67 at ha
                generalize a.eval (.tmp 68) = s68 at ha
                generalize a.eval (.tmp 69) = s69 at ha
                generalize a.eval (.tmp 70) = s70 at ha
                generalize a.eval (.tmp 71) = s71 at ha
                generalize a.eval (.tmp 72) = s72 at ha
                generalize a.eval (.tmp 73) = s73 at ha
                generalize a.eval (.tmp 74) = s74 at ha
                generalize a.eval (.tmp 75) = s75 at ha
                generalize a.eval (.tmp 76) = s76 at ha
                generalize a.eval (.tmp 77) = s77 at ha
                generalize a.eval (.tmp 78) = s78 at ha
                generalize a.eval (.tmp 79) = s79 at ha
                generalize a.eval (.tmp 80) = s80 at ha
                clear hdef hsize hF hv q5 q0 q1 q2 q3 q4 q6 q9 q10 q11 q12 q81 q82 q83 q84 q85 q86 q87 q88 q89 q90 q91 q92 q93 q94 q95 q96 q97 q98 q99 q100 q101 q102 q103 q104 q105 q106 q107 q108 q109 q110 q111 q112 q113 q114 q115 q116 q117 q118 q119 q120 q121 q122 q123 q124 q125 q126 q127
                subst ha
                have hT5 : TreeS S b (M + 1 + 1 + 2300) w A5 es5.length c5 es5 w' := ⟨ho5, hG.rd.more (by omega), hT.2.2.1.trans hG.only, hb5, by have := hG.only.size; omega⟩
                have HT5 := Lib.hid hT5
                generalize es5.length = k5 at *
                clear hG hT5 hT hE ho5 hb5 hbS hsz0
                go_wp2_with fail
                go_roundw
                case rel => exact ⟨kk - 1, _, A5, k5, c5, _, by omega, by omega, by go_num, rfl, by omega, by omega, HT5.out⟩
                case measure => simp [intOf]; omega
            · go_wp2_with fail
              go_roundw
              case rel => exact ⟨kk - 1, _, _, k, c, es, by omega, by omega, by go_num, rfl, by omega, by omega, HT.out⟩
              case measure => simp [intOf]; omega
          · have hk0' : ¬ (0 : Int) < (k : Int) := by omega
            go_wp2_with fail
            go_roundw
            case rel => exact ⟨kk - 1, _, A, k, c, es, by omega, by omega, by go_num, rfl, by omega, by omega, HT.out⟩
            case measure => simp [intOf]; omega
    · have hM2 : M ≤ m + 150000 := by omega
      clear hkk hM kk0 kk1
      by_cases hk0 : 0 < k
      · have hk0' : (0 : Int) < (k : Int) := by omega
        go_wp2_with fail
        refine (odd_any _ _ _ _ (by omega) HT.out.rd (by omega)).mono ?_
        rintro e w1 ⟨t, rfl, hR1, hO1⟩
        have HT1 := Lib.hid (HT.out.pick hR1 hO1)
        clear hR1 hO1 HT
        cases t
        · go_wp2_with fail
          go_ret
          exact ⟨A, k, c, es, rfl, by rw [HSS.out]; exact HT1.out.1, by omega, HT1.out.2.1.more (by omega), HT1.out.2.2.1⟩
        · go_wp2_with fail
          refine (pick_any _ _ _ _ (by omega) HT1.out.rd).mono ?_
          rintro e w2 ⟨y, rfl, y0, y1, hR2, hO2⟩
          have HT2 := Lib.hid (HT1.out.pick hR2 hO2)
          have y1' := y1 (by omega)
          clear hR2 hO2 HT1 y1
          obtain ⟨i, rfl⟩ := Int.eq_ofNat_of_zero_le y0
          have hik : i < k := by omega
          go_wp2_with fail
          refine (pick_any _ _ _ _ (by omega) HT2.out.rd).mono ?_
          rintro e w3 ⟨s, rfl, s0, s1, hR3, hO3⟩
          have hT3 := HT2.out.pick hR3 hO3
          clear hR3 hO3 HT2 s0 s1
          obtain ⟨g, rfl, hgB, hgl, hcells, hfr⟩ := hT3.some_ hk0
          have HT := Lib.hid hT3
          clear hT3
          by_cases hs0 : s = 0
          · subst hs0
            obtain ⟨k1, o1, r1, b1, p1, q1, hx⟩ : ∃ k o r b p q, es.getD i E0 = ⟨k, o, r, b, p, q⟩ := ⟨_, _, _, _, _, _, rfl⟩
            have hci := hcells i hik
            rw [hx] at hci
            obtain ⟨a0, a1, a2, a3, a4, a5⟩ := hci
            have hset := HT.out.cap0 hwS hik
            have HS := Lib.hid hset
            clear hcells hx hset HT
            go_wp2_with fail
            go_ret
            exact ⟨_, k, c, _, rfl, by rw [HSS.out]; exact HS.out.1, by omega, HS.out.2.1.more (by omega), HS.out.2.2.1⟩
          · have hs0b : (s == 0) = false := by rw [beq_eq_false_iff_ne]; exact hs0
            by_cases hs1 : s = 1
            · subst hs1
              obtain ⟨k1, o1, r1, b1, p1, q1, hx⟩ : ∃ k o r b p q, es.getD i E0 = ⟨k, o, r, b, p, q⟩ := ⟨_, _, _, _, _, _, rfl⟩
              have HX := Lib.hid hx
              clear hcells hx hfr
              go_wp2_with fail
              refine (pick_any _ _ _ _ (by omega) (HT.out.alloc _).rd).mono ?_
              rintro e w4 ⟨z, rfl, z0, z1, hR4, hO4⟩
              have hT4 := (HT.out.alloc (.cells #[.int .i64 i, .int .i64 (-2)] 3)).pick hR4 hO4
              have hne : w3.heap.size ≠ b := by have := HT.out.2.1.lt; omega
              have c0 := (hO4.cell w3.heap.size 0 (by simp) hne).trans (cell_of_row _ _ _ _ _ (0, 0) (heap_alloc_new w3 (.cells #[.int .i64 i, .int .i64 (-2)] 3)))
              have c1 := (hO4.cell w3.heap.size 1 (by simp) hne).trans (cell_of_row _ _ _ _ _ (0, 0) (heap_alloc_new w3 (.cells #[.int .i64 i, .int .i64 (-2)] 3)))
              obtain ⟨g', hg', hgB', hgl', hcells, hfr⟩ := hT4.some_ hk0
              injection hg' with hg'
              injection hg' with hg'
              subst hg'
              have hci := hcells i hik
              rw [HX.out] at hci
              obtain ⟨a0, a1, a2, a3, a4, a5⟩ := hci
              have z1' := z1 (by omega)
              have hset := fun v => hT4.set hwS i 4 hik (by omega) { es.getD i E0 with p := v } (.int .i64 v) (by rw [HX.out]; rfl)
              have HS := Lib.hid hset
              clear hR4 hO4 HT hcells hT4 hset z1
              simp at c0 c1
              have hz : z = 0 ∨ z = 1 := by omega
              rcases hz with rfl | rfl
              all_goals
                go_wp2_with fail
                go_ret
                exact ⟨_, k, c, _, rfl, by rw [HSS.out]; exact (HS.out _).1, by omega, (HS.out _).2.1.more (by omega), (HS.out _).2.2.1⟩
            · have hs1b : (s == 1) = false := by rw [beq_eq_false_iff_ne]; exact hs1
              by_cases hs2 : s = 2
              · subst hs2
                clear hcells hfr
                have hTA := HT.out.alloc (.cells #[.int .i64 6, .int .i64 9, .int .i64 3, .int .i64 0, .int .i64 0, .bool false] 48)
                have ho := hTA.1
                unfold OwnE at ho
                have hws := HT.out.2.2.2.2
                obtain ⟨hi, hz0, hz1, hz2⟩ := HI0.out
                clear HT HI0
                go_wp2_with (at_builtin; refine wpList_append_own _ rfl _ _ 25 rfl S 48 i0 _ 6 48 Try.underlying25 hi hz0 hz1 hz2 rfl (by decide) _ k (flat es) rfl ho ⟨w3.heap.size, 0, none⟩ 1 1 [.int .i64 6, .int .i64 9, .int .i64 3, .int .i64 0, .int .i64 0, .bool false] rfl rfl ?qc2 ?qc3 ?qc4 ?qc5 ?qc6 ?_)
                case qc2 => exact news_six (by simp)
                case qc3 =>
                  intro u hu
                  simp only [List.mem_cons, List.not_mem_nil, or_false] at hu
                  rcases hu with rfl | rfl | rfl | rfl | rfl | rfl <;> rfl
                case qc4 => simp only [maxLen]; omega
                case qc5 => omega
                case qc6 => simp only [World.size_alloc]; omega
                intro v' w4 hown hgrow _
                obtain ⟨A4, c4, rfl⟩ := own_form_e hown
                have hO4 : OwnE w4 S A4 (k + 1) c4 (es ++ [⟨6, 9, 3, 0, 0, false⟩]) := by
                  unfold OwnE
                  rw [flat_append]
                  exact hown
                have hT4 := hTA.append hwS hO4 hgrow
                have HT4 := Lib.hid hT4
                clear hown hgrow hO4 hT4 hTA ho
                clear hi hz0 hz1 hz2
                go_wp2_with fail
                go_ret
                exact ⟨A4, k + 1, c4, _, rfl, by rw [HSS.out]; exact HT4.out.1, by omega, HT4.out.2.1.more (by omega), HT4.out.2.2.1⟩
              · have hs2b : (s == 2) = false := by rw [beq_eq_false_iff_ne]; exact hs2
                clear hcells hfr hgB hgl
                generalize hM9 : M + 1 + 1 + 1 = M9 at HT
                have hM9' : M9 ≤ m + 150003 := by omega
                clear hM9
                go_wp2_with fail
                go_loopw [5] (fun dv wr => TreeD M9 S b w dv wr) (fun dv _ => 61 - lenOf dv)
                case atStart => exact ⟨_, k, c, es, rfl, hk0, by omega, HT.out⟩
                case round =>
                  clear HT hk0 hik hk0' hk60 y1' y0
                  obtain ⟨A, k, c, es, rfl, hk0, hk60, hT⟩ := hrel
                  obtain ⟨g, rfl, hgB, hgl, -, -⟩ := hT.some_ hk0
                  by_cases h30 : (k : Int) ≤ 30
                  · have ho := hT.1
                    have hsrc := hT.1.ento.source
                    have hlen := hT.1.len
                    unfold OwnE at ho
                    have hws := hT.2.2.2.2
                    have HT := Lib.hid hT
                    have HSRC := Lib.hid hsrc
                    have HLEN := Lib.hid hlen
                    obtain ⟨hi, hz0, hz1, hz2⟩ := HI0.out
                    clear hT hsrc hlen
                    go_wp2_with (at_builtin; refine wpList_append_own _ rfl _ _ 25 rfl S 48 i0 _ 6 48 Try.underlying25 hi hz0 hz1 hz2 rfl (by decide) _ k (flat es) rfl ho ⟨g, 0, none⟩ k c (flat es) rfl ?qc1 ?qc2 ?qc3 ?qc4 ?qc5 ?qc6 ?_)
                    case qc1 => rw [flat_len, HLEN.out]
                    case qc2 => exact HSRC.out
                    case qc3 => exact flat_one es
                    case qc4 => simp only [maxLen]; omega
                    case qc5 => omega
                    case qc6 => exact hws
                    intro v' w4 hown hgrow _
                    obtain ⟨A4, c4, rfl⟩ := own_form_e hown
                    have hO4 : OwnE w4 S A4 (k + k) c4 (es ++ es) := by
                      unfold OwnE
                      rw [flat_append]
                      exact hown
                    have HT4 := Lib.hid (HT.out.append hwS hO4 hgrow)
                    clear hown hgrow hO4 ho HT hi hz0 hz1 hz2
                    go_wp2_with fail
                    go_roundw
                    case rel => exact ⟨A4, k + k, c4, _, rfl, by omega, by omega, HT4.out⟩
                    case measure => simp [lenOf]; omega
                  · have HT := Lib.hid hT
                    clear hT
                    go_wp2_with fail
                    go_ret
                    exact ⟨_, k, c, es, rfl, by rw [HSS.out]; exact HT.out.1, by omega, HT.out.2.1.more (by omega), HT.out.2.2.1⟩
      · have hk0' : ¬ (0 : Int) < (k : Int) := by omega
        go_wp2_with fail
        go_ret
        exact ⟨A, k, c, es, rfl, by rw [HSS.out]; exact HT.out.1, by omega, HT.out.2.1.more (by omega), HT.out.2.2.1⟩

end Go.Proofs.Ytpglfbjjmnaojaa

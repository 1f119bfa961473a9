/- The draw of a text of rights: whatever the code, a text of at most ten letters; nothing that lay before has turned. No condition. -/
import Derived.Test.YtejijkblkopoaaaDrawRights
import Derived.Test.YtejijkblkopoaaaTexts
namespace Go.Proofs.Ytejijkblkopoaaa
open Go.RowKit
set_option linter.unusedVariables false

theorem rText_size (n : Int) : (rText n).size ≤ 4 := by
  show (rTextL n).toArray.size ≤ 4
  have := rPre_len n 4
  simp only [List.size_toArray, rTextL]
  split
  · split
    · simp
    · exact this
  · simp

set_option maxHeartbeats 1000000 in
theorem drawReadRights (v : Value) (w : World) (h : BytesIn w v) : Calls Try.prog 30 #[v] w (DrawnText w) := by
  go_enter Try.func30, Try.ntmps30
  go_wp2_with fail
  refine (open_any _ _ h).mono ?_
  rintro e w1 ⟨b, rfl, hb, h1, hb1⟩
  go_wp2_with fail
  refine (pick_any _ _ _ _ (by omega) h1).mono ?_
  rintro e w2 ⟨k, rfl, _, _, h2, ho⟩
  go_wp2_with fail
  refine (spec_RightsText _ _).mono ?_
  rintro e w' ⟨rfl, rfl⟩
  have hs := rText_size k
  generalize rText k = s at *
  go_wp2_with fail
  refine (odd_any _ _ _ _ (by omega) h2 (by omega)).mono ?_
  rintro e w3 ⟨k3, rfl, h3, ho3⟩
  have ho13 := ho.trans ho3
  clear ho ho3 h1 h2
  cases k3
  · go_wp2_with fail
    go_ret
    exact ⟨_, rfl, by omega, ho13.to_below hb1 hb⟩
  · have e1 : (s ++ { data := #[114] } : ByteArray).size = s.size + 1 := by rw [ByteArray.size_append]; rfl
    have e2 : (s ++ { data := #[45] } : ByteArray).size = s.size + 1 := by rw [ByteArray.size_append]; rfl
    have E1 := Lib.hid e1
    have E2 := Lib.hid e2
    clear e1 e2
    go_wp2_with fail
    refine (pick_any _ _ _ _ (by omega) (h3.alloc _)).mono ?_
    rintro e w4 ⟨k4, rfl, hk4, hk4', h4, ho4⟩
    have hb3 := h3.lt
    have c0 := ho4.cell w3.heap.size 0 (by simp) (by omega)
    have c1 := ho4.cell w3.heap.size 1 (by simp) (by omega)
    have c2 := ho4.cell w3.heap.size 2 (by simp) (by omega)
    have c3 := ho4.cell w3.heap.size 3 (by simp) (by omega)
    have c4 := ho4.cell w3.heap.size 4 (by simp) (by omega)
    have c5 := ho4.cell w3.heap.size 5 (by simp) (by omega)
    have fin := (ho13.trans ((Only.refl _ _).alloc _ |>.trans ho4)).to_below hb1 hb
    clear h3 h4 ho4 ho13 hb1
    have hk : k4 = 0 ∨ k4 = 1 ∨ k4 = 2 ∨ k4 = 3 ∨ k4 = 4 ∨ k4 = 5 := by omega
    rcases hk with rfl | rfl | rfl | rfl | rfl | rfl
    all_goals
      go_wp2_with fail
      go_ret
    · exact ⟨_, rfl, by rw [E1.out]; omega, fin⟩
    · exact ⟨_, rfl, by decide, fin⟩
    · exact ⟨_, rfl, by decide, fin⟩
    · exact ⟨_, rfl, by decide, fin⟩
    · exact ⟨_, rfl, by decide, fin⟩
    · exact ⟨_, rfl, by rw [E2.out]; omega, fin⟩

end Go.Proofs.Ytejijkblkopoaaa

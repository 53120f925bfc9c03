/- Plain laws on the numbers' bytes: no program is named. -/
import Derived.Test.YtfeeincglijmjaaVJ
import Derived.Test.YtfeeincglijmjaaVH
namespace Go.Proofs.Ytfeeincglijmjaa
open Go.RowKit
set_option linter.unusedVariables false
set_option linter.unusedSimpArgs false

theorem vSize_1 {x : Int} (h : vSize x = 1) : 0 ≤ x ∧ x < 64 := by unfold vSize at h; (repeat' split at h) <;> omega
theorem vSize_2 {x : Int} (h : vSize x = 2) : 64 ≤ x ∧ x < 16384 := by unfold vSize at h; (repeat' split at h) <;> omega
theorem vSize_4 {x : Int} (h : vSize x = 4) : 16384 ≤ x ∧ x < 1073741824 := by unfold vSize at h; (repeat' split at h) <;> omega
theorem vSize_8 {x : Int} (h : vSize x = 8) : 1073741824 ≤ x ∧ x < 4611686018427387904 := by unfold vSize at h; (repeat' split at h) <;> omega
theorem vSize_ne {x : Int} (h0 : 0 ≤ x) (h1 : x < 4611686018427387904) : vSize x ≠ 0 := by unfold vSize; (repeat' split) <;> omega
theorem vSize_range {x : Int} (h : vSize x ≠ 0) : 0 ≤ x ∧ x < 4611686018427387904 := by unfold vSize at h; (repeat' split at h) <;> omega
theorem vSize_mono {x y : Int} (h : x ≤ y) (hy : vSize y ≠ 0) (hx : vSize x ≠ 0) : vSize x ≤ vSize y := by
  have h1 := vSize_range hx
  have h2 := vSize_range hy
  unfold vSize
  (repeat' split) <;> omega

theorem vBytes_1 {x : Int} (h : vSize x = 1) : vBytes x = [vByte x 0] := by unfold vBytes; rw [h]; rfl
theorem vBytes_2 {x : Int} (h : vSize x = 2) : vBytes x = [vByte x 1 + 64, vByte x 0] := by unfold vBytes; rw [h]; rfl
theorem vBytes_4 {x : Int} (h : vSize x = 4) : vBytes x = [vByte x 3 + 128, vByte x 2, vByte x 1, vByte x 0] := by unfold vBytes; rw [h]; rfl
theorem vBytes_8 {x : Int} (h : vSize x = 8) : vBytes x = [vByte x 7 + 192, vByte x 6, vByte x 5, vByte x 4, vByte x 3, vByte x 2, vByte x 1, vByte x 0] := by unfold vBytes; rw [h]; rfl
theorem vBytes_length (x : Int) : (vBytes x).length = vSize x := by
  rcases vSize_cases x with h | h | h | h | h
  · unfold vBytes; rw [h]; rfl
  · rw [vBytes_1 h, h]; rfl
  · rw [vBytes_2 h, h]; rfl
  · rw [vBytes_4 h, h]; rfl
  · rw [vBytes_8 h, h]; rfl

theorem vTell_of {b : UInt8} {q : Int} (h : (b.toNat : Int) / 64 = q) : (q = 0 → vTell b = 1) ∧ (q = 1 → vTell b = 2) ∧ (q = 2 → vTell b = 4) ∧ (q = 3 → vTell b = 8) := by
  rcases tell_cases b with ⟨h1, h2⟩ | ⟨h1, h2⟩ | ⟨h1, h2⟩ | ⟨h1, h2⟩ <;> refine ⟨fun h => ?_, fun h => ?_, fun h => ?_, fun h => ?_⟩ <;> omega

theorem vGet_of {b : UInt8} {r : List UInt8} {x : Int} {s : Nat} (ht : vTell b = s) (hs : vSize x = s) (hr : s ≤ r.length + 1) (hf : vFold ((b.toNat : Int) % 64) (r.take (s - 1)) = x) : vGet (b :: r) = (x, s, 0) := by
  rw [vGet_cons, ht, if_neg (by omega), hf]
  unfold vIs
  rw [if_pos hs]

theorem vByte_64 (x : Int) (k : Nat) : ((vByte x k + 64).toNat : Int) = (x / 2 ^ (8 * k) % 256 + 64) % 256 := by rw [u8_add, vByte_int]; rfl
theorem vByte_128 (x : Int) (k : Nat) : ((vByte x k + 128).toNat : Int) = (x / 2 ^ (8 * k) % 256 + 128) % 256 := by rw [u8_add, vByte_int]; rfl
theorem vByte_192 (x : Int) (k : Nat) : ((vByte x k + 192).toNat : Int) = (x / 2 ^ (8 * k) % 256 + 192) % 256 := by rw [u8_add, vByte_int]; rfl

/-- What is written is read, whatever stands behind. -/
theorem vGet_vBytes {x : Int} (h0 : vSize x ≠ 0) (r : List UInt8) : vGet (vBytes x ++ r) = (x, vSize x, 0) := by
  rcases vSize_cases x with h | h | h | h | h
  · exact absurd h h0
  · have hx := vSize_1 h
    have hb := vByte_int x 0
    simp at hb
    rw [vBytes_1 h, h]
    exact vGet_of ((vTell_of (by rfl)).1 (by omega)) h (by simp) (by simp [vFold]; omega)
  · have hx := vSize_2 h
    obtain ⟨b, hbd⟩ : ∃ b, b = vByte x 1 + 64 := ⟨_, rfl⟩
    have hb := vByte_64 x 1
    rw [← hbd] at hb
    have h0 := vByte_int x 0
    simp at hb h0
    rw [vBytes_2 h, h, ← hbd]
    exact vGet_of ((vTell_of (by rfl)).2.1 (by omega)) h (by simp) (by simp [vFold]; omega)
  · have hx := vSize_4 h
    obtain ⟨b, hbd⟩ : ∃ b, b = vByte x 3 + 128 := ⟨_, rfl⟩
    have hb := vByte_128 x 3
    rw [← hbd] at hb
    have h0 := vByte_int x 0
    have h1 := vByte_int x 1
    have h2 := vByte_int x 2
    simp at hb h0 h1 h2
    rw [vBytes_4 h, h, ← hbd]
    exact vGet_of ((vTell_of (by rfl)).2.2.1 (by omega)) h (by simp) (by simp [vFold]; omega)
  · have hx := vSize_8 h
    obtain ⟨b, hbd⟩ : ∃ b, b = vByte x 7 + 192 := ⟨_, rfl⟩
    have hb := vByte_192 x 7
    rw [← hbd] at hb
    have h0 := vByte_int x 0
    have h1 := vByte_int x 1
    have h2 := vByte_int x 2
    have h3 := vByte_int x 3
    have h4 := vByte_int x 4
    have h5 := vByte_int x 5
    have h6 := vByte_int x 6
    simp at hb h0 h1 h2 h3 h4 h5 h6
    rw [vBytes_8 h, h, ← hbd]
    exact vGet_of ((vTell_of (by rfl)).2.2.2 (by omega)) h (by simp) (by simp [vFold]; omega)

theorem vBytes_inj {x y : Int} (hx : vSize x ≠ 0) (hy : vSize y ≠ 0) (h : vBytes x = vBytes y) : x = y := by
  have h1 := vGet_vBytes hx []
  have h2 := vGet_vBytes hy []
  rw [h, h2] at h1
  injection h1 with h1
  exact h1.symm

/-- Neither one's bytes begin the other's. -/
theorem vBytes_apart {x y : Int} (hx : vSize x ≠ 0) (hy : vSize y ≠ 0) (h : (vBytes x).take (vBytes y).length = vBytes y) : x = y := by
  have h1 := vGet_vBytes hx []
  have h2 := vGet_vBytes hy ((vBytes x).drop (vBytes y).length)
  rw [List.append_nil, ← List.take_append_drop (vBytes y).length (vBytes x), h, h2] at h1
  injection h1 with h1
  exact h1.symm

theorem u8_eq {a b : UInt8} (h : (a.toNat : Int) = b.toNat) : a = b := UInt8.toNat_inj.1 (by omega)

/-- What is read was written so. -/
theorem vBytes_vGet {l : List UInt8} (h : (vGet l).2.2 = 0) : vBytes (vGet l).1 = l.take (vGet l).2.1 ∧ vSize (vGet l).1 = (vGet l).2.1 ∧ (vGet l).2.1 ≠ 0 := by
  rcases l with _ | ⟨b, r⟩
  · simp [vGet] at h
  rw [vGet_cons] at h ⊢
  by_cases hr : r.length + 1 < vTell b
  · rw [if_pos hr] at h; simp at h
  rw [if_neg hr] at h ⊢
  have hpos := vTell_pos b
  rcases vIs_cases (vFold ((b.toNat : Int) % 64) (r.take (vTell b - 1))) (vTell b) with ⟨h2, hs⟩ | h2
  · rw [h2]
    refine ⟨?_, hs, by simp; omega⟩
    clear h2 h
    have hb := b.toNat_lt
    rcases tell_cases b with ⟨q, ht⟩ | ⟨q, ht⟩ | ⟨q, ht⟩ | ⟨q, ht⟩ <;> rw [ht] at hs hr ⊢ <;> simp only at hs ⊢
    · rw [vBytes_1 hs]
      simp [vFold] at hs ⊢
      apply u8_eq
      rw [vByte_int]
      omega
    · rcases r with _ | ⟨x1, r⟩
      any_goals (simp at hr; done)
      rw [vBytes_2 hs]
      simp [vFold] at hs ⊢
      have hx1 := x1.toNat_lt
      refine ⟨?_, ?_⟩
      · apply u8_eq
        rw [vByte_64]
        omega
      · apply u8_eq
        rw [vByte_int]
        omega
    · rcases r with _ | ⟨x1, _ | ⟨x2, _ | ⟨x3, r⟩⟩⟩
      any_goals (simp at hr; done)
      rw [vBytes_4 hs]
      simp [vFold] at hs ⊢
      have hx1 := x1.toNat_lt
      have hx2 := x2.toNat_lt
      have hx3 := x3.toNat_lt
      refine ⟨?_, ?_, ?_, ?_⟩
      · apply u8_eq
        rw [vByte_128]
        omega
      · apply u8_eq
        rw [vByte_int]
        omega
      · apply u8_eq
        rw [vByte_int]
        omega
      · apply u8_eq
        rw [vByte_int]
        omega
    · rcases r with _ | ⟨x1, _ | ⟨x2, _ | ⟨x3, _ | ⟨x4, _ | ⟨x5, _ | ⟨x6, _ | ⟨x7, r⟩⟩⟩⟩⟩⟩⟩
      any_goals (simp at hr; done)
      rw [vBytes_8 hs]
      simp [vFold] at hs ⊢
      have hx1 := x1.toNat_lt
      have hx2 := x2.toNat_lt
      have hx3 := x3.toNat_lt
      have hx4 := x4.toNat_lt
      have hx5 := x5.toNat_lt
      have hx6 := x6.toNat_lt
      have hx7 := x7.toNat_lt
      refine ⟨?_, ?_, ?_, ?_, ?_, ?_, ?_, ?_⟩
      · apply u8_eq
        rw [vByte_192]
        omega
      · apply u8_eq
        rw [vByte_int]
        omega
      · apply u8_eq
        rw [vByte_int]
        omega
      · apply u8_eq
        rw [vByte_int]
        omega
      · apply u8_eq
        rw [vByte_int]
        omega
      · apply u8_eq
        rw [vByte_int]
        omega
      · apply u8_eq
        rw [vByte_int]
        omega
      · apply u8_eq
        rw [vByte_int]
        omega
  · rw [h2] at h; simp at h

theorem vAllF_vCat : ∀ (l : List Int) (k : Nat), (∀ x ∈ l, vSize x ≠ 0) → (vCat l).length ≤ k → vAllF k (vCat l) = some l
  | [], k, _, _ => vAllF_nil k
  | x :: l, k, h, hk => by
    have hx := h x (List.mem_cons_self ..)
    have e : vCat (x :: l) = vBytes x ++ vCat l := by simp [vCat]
    have hg := vGet_vBytes hx (vCat l)
    have hlen := vBytes_length x
    rw [e] at hk ⊢
    rw [List.length_append] at hk
    obtain ⟨kk, rfl⟩ : ∃ kk, k = kk + 1 := ⟨k - 1, by omega⟩
    rw [vAllF_cons (by rw [List.length_append]; omega), hg, if_pos rfl]
    simp only
    rw [← hlen, List.drop_left, vAllF_vCat l kk (fun y hy => h y (List.mem_cons_of_mem _ hy)) (by omega)]
    rfl
theorem vAll_vCat {l : List Int} (h : ∀ x ∈ l, vSize x ≠ 0) : vAll (vCat l) = (l, 0) := by
  unfold vAll
  rw [vAllF_vCat l _ h (Nat.le_refl _)]
theorem vAllF_back : ∀ (k : Nat) (b : List UInt8) (l : List Int), vAllF k b = some l → vCat l = b ∧ ∀ x ∈ l, vSize x ≠ 0
  | k, [], l, h => by rw [vAllF_nil] at h; injection h with h; subst h; simp [vCat]
  | 0, _ :: _, l, h => by cases h
  | k + 1, b :: r, l, h => by
    rw [vAllF_cons (by simp)] at h
    by_cases h0 : (vGet (b :: r)).2.2 = 0
    · rw [if_pos h0] at h
      obtain ⟨h1, h2, h3⟩ := vBytes_vGet h0
      cases h4 : vAllF k ((b :: r).drop (vGet (b :: r)).2.1) with
      | none => rw [h4] at h; cases h
      | some ys =>
        rw [h4] at h
        injection h with h
        subst h
        obtain ⟨h5, h6⟩ := vAllF_back k _ _ h4
        refine ⟨?_, ?_⟩
        · have e : vCat ((vGet (b :: r)).1 :: ys) = vBytes (vGet (b :: r)).1 ++ vCat ys := by simp [vCat]
          rw [e, h1, h5, List.take_append_drop]
        · intro x hx
          rcases List.mem_cons.1 hx with hx | hx
          · rw [hx, h2]; exact h3
          · exact h6 x hx
    · rw [if_neg h0] at h; cases h
theorem vAll_back (b : List UInt8) : ((vAll b).2 = 0 ∧ vJoin (vAll b).1 = (b, 0)) ∨ vAll b = ([], 10) := by
  unfold vAll
  cases h : vAllF b.length b with
  | none => exact .inr rfl
  | some l =>
    obtain ⟨h1, h2⟩ := vAllF_back _ _ _ h
    refine .inl ⟨rfl, ?_⟩
    unfold vJoin
    rw [if_pos h2, h1]

/-- Fewer bytes are none. -/
theorem vGet_cut {x : Int} (h0 : vSize x ≠ 0) {k : Nat} (hk : k < vSize x) : vGet ((vBytes x).take k) = (0, 0, 10) := by
  rcases k with _ | k
  · rfl
  have hl := vBytes_length x
  have hg := vGet_vBytes h0 []
  rw [List.append_nil] at hg
  cases hb : vBytes x with
  | nil => rw [hb] at hl; simp at hl; omega
  | cons b r =>
    rw [hb] at hg hl
    have ht : vTell b = vSize x := by
      rw [vGet_cons] at hg
      by_cases hr : r.length + 1 < vTell b
      · rw [if_pos hr] at hg; injection hg with _ hg; injection hg with _ hg; cases hg
      rw [if_neg hr] at hg
      rcases vIs_cases (vFold ((b.toNat : Int) % 64) (r.take (vTell b - 1))) (vTell b) with ⟨h2, hs⟩ | h2
      · rw [h2] at hg; injection hg with _ hg; injection hg
      · rw [h2] at hg; injection hg with _ hg; injection hg with _ hg; cases hg
    rw [List.take_succ_cons, vGet_cons, if_pos (by rw [ht, List.length_take]; omega)]
end Go.Proofs.Ytfeeincglijmjaa

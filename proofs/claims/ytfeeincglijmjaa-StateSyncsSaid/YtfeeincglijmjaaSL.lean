/- The walks of state's Acked and Begin. -/
import Derived.Test.YtfeeincglijmjaaSK
namespace Go.Proofs.Ytfeeincglijmjaa
open Go.RowKit
set_option linter.unusedVariables false
set_option linter.unusedSimpArgs false
attribute [local go_sem ↓] Go.wp_at_zero Go.wp_at_succ

/-- A list of shown screens, from a place on. -/
theorem Shs.cut {w : World} {up n c : Nat} {A : Option Addr} {l : List Shn} (h : Shs w up A n c l) (k m : Nat) (L : Int) (hL : L = k) (hk : k + m = n) :
    ∃ A', (∀ w', (Instr.slice 25 (.slice A n c) (some (.int .i64 L)) none none).run Try.prog w' = .ok (.slice A' m (c - k)) w') ∧ Shs w up A' m (c - k) (l.drop k) := by
  obtain ⟨i0, hi0, hz0, hz1, hz2⟩ := info_parts info39x
  obtain ⟨A', h1, h2⟩ := cut_l (P := Try.prog) Try.underlying25 hi0 hz1 h.sl k m L hL hk
  exact ⟨A', h1, by rw [shCells_drop] at h2; exact h2, fun x hx => h.ok x (List.mem_of_mem_drop hx)⟩
theorem sFind_bound (n : Int) (l : List (Int × Scr)) : -1 ≤ sFind n l ∧ sFind n l < l.length ∨ l = [] := by
  unfold sFind rIdx
  by_cases h : (l.any fun x => x.1 == n) = true
  · rw [if_pos h]
    have : l.findIdx (fun x => x.1 == n) < l.length := List.findIdx_lt_length_of_exists (by simpa using h)
    left; omega
  · rw [if_neg h]
    cases l with
    | nil => exact .inr rfl
    | cons x r => left; constructor; omega; simp only [List.length_cons]; omega
/-- Those behind one that a client has. -/
def dAcked (l : List (Int × Scr)) (n : Int) : List (Int × Scr) := if sCheck l then l.drop (max (sFind n l) 0).toNat else []

set_option maxHeartbeats 4000000 in
set_option maxRecDepth 100000 in
theorem acked_any {up : Nat} {A : Option Addr} {n c : Nat} {l : List Shn} {z : Int} {w : World} (hr : Shs w up A n c l) (hup : up ≤ w.heap.size) (hn : n ≤ 9223372036854775807) :
    Calls Try.prog 21 #[.slice A n c, .int .i64 z] w (RetSh w (dAcked (l.map Shn.p) z)) := by
  have HCk := Lib.hid (scheck_any hr hup hn)
  have HF := Lib.hid (fun W (b : Below w.heap.size w W) => find_any (k := z) (hr.below b hup) (Nat.le_trans hup b.size) hn)
  have hlen := hr.len
  subst hlen
  cases hck : sCheck (l.map Shn.p)
  · have hf : dAcked (l.map Shn.p) z = [] := by unfold dAcked; rw [if_neg (by rw [hck]; decide)]
    rw [hf]
    rw [hck] at HCk
    clear hf hck HF hr
    go_enter Try.func21, Try.ntmps21
    go_wp2_with fail
    refine HCk.out.mono ?_
    rintro e w1 ⟨rfl, b1⟩
    have F := Lib.hid (RetSh.nil0 w w1 b1)
    go_wp2_with fail
    go_ret
    exact F.out
  rw [hck] at HCk
  obtain ⟨hl0, hl8, hmem⟩ := sCheck_parts hck
  have hb := sFind_bound z (l.map Shn.p)
  rw [List.length_map] at hl0 hl8 hb
  obtain ⟨k, hk⟩ : ∃ k : Nat, max (sFind z (l.map Shn.p)) 0 = k := ⟨(max (sFind z (l.map Shn.p)) 0).toNat, by omega⟩
  have hkl : k < l.length := by
    rcases hb with hb | hb
    · omega
    · rw [List.map_eq_nil_iff] at hb; subst hb; exact absurd hl0 (by decide)
  have hf : dAcked (l.map Shn.p) z = (l.drop k).map Shn.p := by unfold dAcked; rw [if_pos hck, hk, List.map_drop]; rfl
  rw [hf]
  obtain ⟨A', hcut, hs⟩ := hr.cut k (l.length - k) k rfl (by omega)
  have HO := Lib.hid (fun W (b : Below w.heap.size w W) => own_any (hs.below b hup) (Nat.le_trans hup b.size) (by omega) (fun y hy => (hmem y.p (List.mem_map_of_mem (List.mem_of_mem_drop hy))).2.2))
  have HB2 := Lib.hid (show (sFind z (l.map Shn.p) = -1 ∧ k = 0) ∨ sFind z (l.map Shn.p) = (k : Int) by
    rcases hb with hb | hb
    · omega
    · rw [List.map_eq_nil_iff] at hb; subst hb; exact absurd hl0 (by decide))
  clear hf hck hr hs hmem hb
  generalize sFind z (l.map Shn.p) = r at *
  generalize (l.drop k).map Shn.p = P at *
  go_enter Try.func21, Try.ntmps21
  go_wp2_with fail
  refine HCk.out.mono ?_
  rintro e w1 ⟨rfl, b1⟩
  clear HCk
  go_wp2_with fail
  refine (HF.out _ b1).mono ?_
  rintro e w2 ⟨rfl, b2⟩
  have bb2 := b1.trans (b2.mono b1.size)
  clear b2 b1 HF
  rcases HB2.out with ⟨rfl, rfl⟩ | rfl
  · have hcut0 : ∀ w', (Instr.slice 25 (.slice A l.length c) (some (.int .i64 0)) none none).run Try.prog w' = .ok (.slice A' (l.length - 0) (c - 0)) w' := hcut
    clear hk hcut
    go_wp2_with fail
    refine (HO.out _ bb2).mono ?_
    rintro e w3 h3
    have F := Lib.hid (h3.sh.from bb2)
    obtain ⟨A3, c3, K3, rfl, -⟩ := h3
    clear HO
    go_wp2_with fail
    go_ret
    exact F.out
  · have hk0 : ¬ ((k : Int) < 0) := by omega
    clear hk
    go_wp2_with fail
    refine (HO.out _ bb2).mono ?_
    rintro e w3 h3
    have F := Lib.hid (h3.sh.from bb2)
    obtain ⟨A3, c3, K3, rfl, -⟩ := h3
    clear HO
    go_wp2_with fail
    go_ret
    exact F.out
end Go.Proofs.Ytfeeincglijmjaa

/- The walks of varint.All and the document's All. -/
import Derived.Test.YtfeeincglijmjaaVD
import Derived.Test.YtfeeincglijmjaaVG
namespace Go.Proofs.Ytfeeincglijmjaa
open Go.RowKit
set_option linter.unusedVariables false
set_option linter.unusedSimpArgs false
attribute [local go_sem ↓] Go.wp_at_zero Go.wp_at_succ

/-- The numbers that bytes are, in at most so many steps. -/
def vAllF : Nat → List UInt8 → Option (List Int)
  | _, [] => some []
  | 0, _ :: _ => none
  | k + 1, b :: r => if (vGet (b :: r)).2.2 = 0 then (vAllF k ((b :: r).drop (vGet (b :: r)).2.1)).map ((vGet (b :: r)).1 :: ·) else none
/-- All. -/
def vAll (l : List UInt8) : List Int × Int := match vAllF l.length l with | some x => (x, 0) | none => ([], 10)

theorem vAllF_nil (k : Nat) : vAllF k [] = some [] := by cases k <;> rfl
theorem vAllF_cons {k : Nat} {l : List UInt8} (h : 0 < l.length) : vAllF (k + 1) l = if (vGet l).2.2 = 0 then (vAllF k (l.drop (vGet l).2.1)).map ((vGet l).1 :: ·) else none := by
  rcases l with _ | ⟨b, r⟩
  · simp at h
  · rfl

theorem vIs_cases (x : Int) (s : Nat) : (vIs x s = (x, s, 0) ∧ vSize x = s) ∨ vIs x s = (0, 0, 10) := by
  unfold vIs
  by_cases h : vSize x = s
  · rw [if_pos h]; exact .inl ⟨rfl, h⟩
  · rw [if_neg h]; exact .inr rfl
theorem vTell_pos (b : UInt8) : 1 ≤ vTell b ∧ vTell b ≤ 8 := by rcases tell_cases b with h | h | h | h <;> omega
theorem vGet_cases (l : List UInt8) : ((vGet l).2.2 = 0 ∧ 1 ≤ (vGet l).2.1 ∧ (vGet l).2.1 ≤ l.length) ∨ vGet l = (0, 0, 10) := by
  rcases l with _ | ⟨b, r⟩
  · exact .inr rfl
  rw [vGet_cons]
  by_cases h : r.length + 1 < vTell b
  · rw [if_pos h]; exact .inr rfl
  rw [if_neg h]
  have := vTell_pos b
  rcases vIs_cases (vFold ((b.toNat : Int) % 64) (r.take (vTell b - 1))) (vTell b) with ⟨h2, _⟩ | h2
  · rw [h2]; exact .inl ⟨rfl, this.1, by simp; omega⟩
  · exact .inr h2

/-- What numbers of the callee's own, and an error, are handed back as. -/
def RetIE (w : World) (l : List Int) (n : Int) (e : Ending) (w' : World) : Prop :=
  ∃ A c, e = .returned (.tuple #[.slice A l.length c, .int .i64 n]) ∧ w'.ownsRow w.heap.size 3 1 (.slice A l.length c) l.length (intCells l) ∧ Below w.heap.size w w'

theorem rall_any {lo up : Nat} {A : Option Addr} {n c : Nat} {l : List UInt8} {w : World} (hr : Sl w lo up 1 A n c (byteCells l)) (hup : up ≤ w.heap.size) (hn : n ≤ 1000000) :
    Calls Try.prog 67 #[.slice A n c] w (RetIE w (vAll l).1 (vAll l).2) := by
  obtain ⟨j0, hj0, jz0, jz1, jz2⟩ := info_parts info5
  obtain ⟨i0, hi0, hz0, hz1, hz2⟩ := info_parts info3
  have hl0 : n = l.length := by have := hr.len; rw [byteCells_length] at this; omega
  subst hl0
  go_enter Try.func67, Try.ntmps67
  go_wp2_with fail
  go_loopg [0, 4] l.length (fun gh s0 s4 wr => ∃ (r : List UInt8) (A c : _) (acc : List Int) (A2 c2 : _) (k : Nat), gh = r.length ∧ s0 = .slice A r.length c ∧ Sl wr lo up 1 A r.length c (byteCells r) ∧ s4 = .slice A2 acc.length c2 ∧
    wr.ownsRow w.heap.size 3 1 (.slice A2 acc.length c2) acc.length (intCells acc) ∧ Below w.heap.size w wr ∧ acc.length + r.length ≤ l.length ∧ r.length ≤ k ∧ Hid (vAllF l.length l = (vAllF k r).map (acc ++ ·)))
  case atStart => exact ⟨l, A, c, [], none, 0, l.length, rfl, rfl, hr, rfl, World.ownsRow_nil _ _ _ _, Below.refl _ _, by simp, by omega, Lib.hid (by cases vAllF l.length l <;> simp)⟩
  case round =>
    obtain ⟨r, A, c, acc, A2, c2, k, hg, rfl, hs, rfl, hown, bb, hlen, hk, hall⟩ := hrel
    have bs1 := bb.size
    clear hr
    by_cases h : 0 < r.length
    · obtain ⟨kk, rfl⟩ : ∃ kk, k = kk + 1 := ⟨k - 1, by omega⟩
      have HG := Lib.hid (fun W lo up (h : Sl W lo up 1 A r.length c (byteCells r)) => rget_any h)
      rcases vGet_cases r with ⟨h0, h1, h2⟩ | h0
      · have hall2 : vAllF l.length l = (vAllF kk (r.drop (vGet r).2.1)).map ((acc ++ [(vGet r).1]) ++ ·) := by
          rw [hall.out, vAllF_cons h, if_pos h0]
          cases vAllF kk (r.drop (vGet r).2.1) <;> simp
        have Hall2 := Lib.hid hall2
        clear hall hall2
        obtain ⟨⟨x, s, e⟩, hgq⟩ : ∃ q, q = vGet r := ⟨_, rfl⟩
        rw [← hgq] at HG Hall2 h0 h1 h2
        clear hgq
        simp only at h0 h1 h2
        subst h0
        obtain ⟨A3, hcut, hs3⟩ := cut_l Try.underlying23 hj0 jz1 hs s (r.length - s) (s : Int) rfl (by omega)
        rw [Nat.mul_one, byteCells_drop] at hs3
        have hdl : (r.drop s).length = r.length - s := List.length_drop
        have Hdl := Lib.hid hdl
        clear hdl
        go_wp2_with fail
        refine (HG.out _ _ _ hs).mono ?_
        rintro e w2 ⟨rfl, rfl⟩
        go_wp2_with (at_builtin; refine wpList_append_sl _ rfl (.tmp 20) (.tmp 22) _ rfl w.heap.size 3 i0 _ 1 8 Try.underlying88 hi0 hz0 hz1 hz2 rfl (by omega) (.slice A2 acc.length c2) acc.length _ rfl (own_alloc hown _) w2.heap.size (w2.heap.size + 1) _ 1 1 _ rfl (Sl.new w2 3 _ 1 1 1 _ rfl (by omega) rfl rfl) (by intro u hu; simp at hu; subst hu; rfl) (acc.length + 1) rfl _ rfl (by unfold maxLen; omega) (by omega) (by simp; omega) ?_; intro A4 c4 w4 hown4 hg4; have hb4 := grown_below (B := w.heap.size) hg4 (by simp; omega) (fun k hk => (hown.lt k hk).1))
        go_roundg (r.length - s)
        case measure => omega
        case rel =>
          have hs4 := ((hs3.alloc (by omega) (.cells #[.int .i64 x] 3))).below hb4 hup
          refine ⟨r.drop s, A3, c - s, acc ++ [x], A4, c4, kk, ?_, ?_, ?_, ?_, ?_, (bb.alloc bs1 _).trans hb4, ?_, ?_, Hall2⟩
          · exact Hdl.out.symm
          · rw [Hdl.out]
          · rw [Hdl.out]; exact hs4
          · rw [List.length_append]; rfl
          · rw [List.length_append, intCells_append]; exact hown4
          · rw [List.length_append, Hdl.out]; simp; omega
          · rw [Hdl.out]; omega
      · have hj : vAll l = ([], 10) := by
          unfold vAll
          rw [hall.out, vAllF_cons h, h0]
          rfl
        rw [h0] at HG
        rw [hj]
        clear hall
        go_wp2_with fail
        refine (HG.out _ _ _ hs).mono ?_
        rintro e w2 ⟨rfl, rfl⟩
        go_wp2
        go_ret2
        exact ⟨none, 0, rfl, World.ownsRow_nil _ _ _ _, bb⟩
    · obtain rfl : r = [] := List.eq_nil_of_length_eq_zero (by omega)
      have hj : vAll l = (acc, 0) := by
        unfold vAll
        rw [hall.out, vAllF_nil]
        simp
      rw [hj]
      clear hall
      go_wp2
      go_ret2
      exact ⟨A2, c2, rfl, hown, bb⟩

/-- The closure: what is read next. -/
theorem next_any {lo up gb ge : Nat} {A : Option Addr} {n c : Nat} {r : List UInt8} {e0 : Int} {w : World} (hr : Sl w lo up 1 A n c (byteCells r)) (hb : Blk w gb 23 #[.slice A n c]) (he : Blk w ge 26 #[.int .i64 e0]) (hne : gb ≠ ge) (hup1 : gb < lo ∨ up ≤ gb) (hup2 : ge < lo ∨ up ≤ ge) :
    Calls Try.prog 97 #[.pointer (some ⟨gb, 0, none⟩), .pointer (some ⟨ge, 0, none⟩)] w fun e w' => e = .returned (.int .i64 (vGet r).1) ∧ ∃ A', Sl w lo up 1 A' (n - (vGet r).2.1) (c - (vGet r).2.1) (byteCells (r.drop (vGet r).2.1)) ∧
      w' = (w.setCell ⟨ge, 0, none⟩ (.int .i64 (vGet r).2.2)).setCell ⟨gb, 0, none⟩ (.slice A' (n - (vGet r).2.1) (c - (vGet r).2.1)) := by
  obtain ⟨j0, hj0, jz0, jz1, jz2⟩ := info_parts info5
  have hl0 : n = r.length := by have := hr.len; rw [byteCells_length] at this; omega
  subst hl0
  have HG := Lib.hid (fun W lo up (h : Sl W lo up 1 A r.length c (byteCells r)) => get_any h)
  have hle : (vGet r).2.1 ≤ r.length := by
    rcases vGet_cases r with ⟨h0, h1, h2⟩ | h0
    · exact h2
    · rw [h0]; exact Nat.zero_le _
  obtain ⟨⟨x, s, e⟩, hgq⟩ : ∃ q, q = vGet r := ⟨_, rfl⟩
  rw [← hgq] at HG hle ⊢
  clear hgq
  simp only at hle ⊢
  obtain ⟨A3, hcut, hs3⟩ := cut_l Try.underlying23 hj0 jz1 hr s (r.length - s) (s : Int) rfl (by omega)
  rw [Nat.mul_one, byteCells_drop] at hs3
  have ⟨kb, fb⟩ := hb.rules
  have ⟨ke, fe⟩ := he.rules
  go_enter Try.func97, Try.ntmps97
  go_wp2_with fail
  refine (HG.out _ _ _ hr).mono ?_
  rintro e w2 ⟨rfl, rfl⟩
  go_wp2
  go_ret
  exact ⟨rfl, A3, hs3, rfl⟩
end Go.Proofs.Ytfeeincglijmjaa

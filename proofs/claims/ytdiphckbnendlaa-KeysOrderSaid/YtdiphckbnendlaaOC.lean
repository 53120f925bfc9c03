/- The memory of KeysOrder as one word. -/
import Derived.Test.YtdiphckbnendlaaOB
namespace Go.Proofs.Ytdiphckbnendlaa
open Go.RowKit
set_option linter.unusedVariables false
set_option linter.unusedSimpArgs false

/-- What waits lies in its block, and the late parts lie in their row, apart. -/
def Mem (W : World) (g4 : Nat) (S : List UInt8) (f : Nat) (T : Option Addr) (ct : Nat) (late : List St) (LA : Option Addr) (cl : Nat) : Prop :=
  Blk W g4 24 #[.int .i64 f, .slice T (S.length - f) ct] ∧ Lies W g4 (Value.ownBlock (.slice LA late.length cl)) T (S.length - f) ct (S.drop f) ∧ W.ownsRow (g4 + 1) 40 4 (.slice LA late.length cl) late.length (stCells late) ∧
  ∀ e ∈ late, isPart S e.k e.d ∧ Lies W g4 (Value.ownBlock (.slice LA late.length cl)) e.D e.d.length e.c e.d
variable {W W' : World} {g4 : Nat} {S : List UInt8} {f : Nat} {T : Option Addr} {ct : Nat} {late : List St} {LA : Option Addr} {cl : Nat}
theorem Mem.below (h : Mem W g4 S f T ct late LA cl) (hb : Below W.heap.size W W') : Mem W' g4 S f T ct late LA cl := by
  obtain ⟨h1, h2, h3, h4⟩ := h
  exact ⟨h1.later hb, h2.below hb, own_below h3 hb (Nat.le_refl _), fun e he => ⟨(h4 e he).1, (h4 e he).2.below hb⟩⟩
theorem Mem.alloc (h : Mem W g4 S f T ct late LA cl) (o : Obj) : Mem (W.alloc o) g4 S f T ct late LA cl := h.below ((Below.refl _ W).alloc (Nat.le_refl _) o)
theorem Mem.put {S' : List UInt8} {f' : Nat} {T' : Option Addr} {ct' : Nat} (h : Mem W g4 S f T ct late LA cl) (hS : ∀ k d, isPart S k d → isPart S' k d) (hl : Lies W g4 (Value.ownBlock (.slice LA late.length cl)) T' (S'.length - f') ct' (S'.drop f')) :
    Mem ((W.setCell ⟨g4, 0, none⟩ (.int .i64 f')).setCell ⟨g4, 1, none⟩ (.slice T' (S'.length - f') ct')) g4 S' f' T' ct' late LA cl := by
  obtain ⟨h1, h2, h3, h4⟩ := h
  have b1 := (h1.set_ 0 (.int .i64 f')).set_ 1 (.slice T' (S'.length - f') ct')
  exact ⟨b1, (hl.set4 0 _).set4 1 _, own_setBlk (own_setBlk h3 h1 (by decide) 0 _) (h1.set_ 0 _) (by decide) 1 _, fun e he => ⟨hS _ _ (h4 e he).1, ((h4 e he).2.set4 0 _).set4 1 _⟩⟩
theorem Mem.grow {e : St} {A' : Option Addr} {c' : Nat} (h : Mem W g4 S f T ct late LA cl) (hp : isPart S e.k e.d) (hl : Lies W g4 (Value.ownBlock (.slice LA late.length cl)) e.D e.d.length e.c e.d)
    (hown : W'.ownsRow (g4 + 1) 40 4 (.slice A' (late.length + 1) c') (late.length + 1) (stCells (late ++ [e]))) (hg : W.grownBy W' (Value.ownBlock (.slice LA late.length cl)))
    (hbl : ∀ g, Value.ownBlock (.slice A' (late.length + 1) c') = some g → Value.ownBlock (.slice LA late.length cl) = some g ∨ W.heap.size ≤ g) : Mem W' g4 S f T ct (late ++ [e]) A' c' := by
  obtain ⟨h1, h2, h3, h4⟩ := h
  have hl' : (late ++ [e]).length = late.length + 1 := by simp
  unfold Mem
  rw [hl']
  refine ⟨h1.grown hg (fun e => by have := (h3.lt _ e.symm).1; omega), h2.grown hg hbl, hown, fun u hu => ?_⟩
  rcases List.mem_append.1 hu with hu | hu
  · exact ⟨(h4 u hu).1, (h4 u hu).2.grown hg hbl⟩
  · simp at hu
    subst hu
    exact ⟨hp, hl.grown hg hbl⟩
theorem Mem.lt (h : Mem W g4 S f T ct late LA cl) : g4 < W.heap.size := h.1.lt
theorem Mem.row (h : Mem W g4 S f T ct late LA cl) : ∀ g, Value.ownBlock (.slice LA late.length cl) = some g → g < W.heap.size := fun g e => (h.2.2.1.lt g e).2
theorem Mem.len (h : Mem W g4 S f T ct late LA cl) : Below W.heap.size W W := Below.refl _ _
theorem info40 : (Try.prog.info? 40).map (fun i => (i.zero, i.size, i.bytes)) = some (some (.agg #[.int .i64 0, .slice none 0 0, .int .u8 0, .int .u8 0]), 4, 40) := by kernel_rfl
end Go.Proofs.Ytdiphckbnendlaa

/- A slice that reads as a list of cells (after the guide's extra-words page). No condition. -/
import Derived.Test.YtkgkhcfonlhphaaGreatDoorSmall
import Derived.Laws.OwnMore
import Derived.Lib.ItoaMem
namespace Go.Proofs.YtkgkhcfonlhphaaGreatDoor
open Go.RowKit

/-- the slice value '.slice A n c' holds the cells xs (size cells an element), below block B -/
def Reads (w : World) (B size : Nat) (A : Option Addr) (n : Nat) (xs : List Value) : Prop :=
  xs.length = n * size ∧ (0 < n → ∃ b o, A = some ⟨b, o, none⟩ ∧ b < B ∧ ∀ j u, xs[j]? = some u → w.cell? ⟨b, o + j, none⟩ = some u)

section
variable {w w' : World} {B B' size n : Nat} {A : Option Addr} {xs : List Value}
theorem Reads.none_ : Reads w B size A 0 [] := ⟨by simp, fun h => absurd h (by omega)⟩
theorem Reads.keep (h : Reads w B size A n xs) (hk : ∀ p : Addr, p.block < B → w'.cell? p = w.cell? p) : Reads w' B size A n xs :=
  ⟨h.1, fun hn => by
    obtain ⟨b, o, e, hb, hc⟩ := h.2 hn
    exact ⟨b, o, e, hb, fun j u hu => (hk _ hb).trans (hc j u hu)⟩⟩
theorem Reads.more (h : Reads w B size A n xs) (hB : B ≤ B') : Reads w B' size A n xs :=
  ⟨h.1, fun hn => by
    obtain ⟨b, o, e, hb, hc⟩ := h.2 hn
    exact ⟨b, o, e, by omega, hc⟩⟩
theorem Reads.below (h : Reads w B size A n xs) (hb : Below B w w') : Reads w' B size A n xs := h.keep fun _ hp => hb.cell hp
theorem Reads.drew (h : Reads w B size A n xs) : Reads w.drew B size A n xs := h
theorem Reads.drewN (h : Reads w B size A n xs) (k : Nat) : Reads (w.drewN k) B size A n xs := h
theorem Reads.alloc (h : Reads w B size A n xs) (hB : B ≤ w.heap.size) (o : Obj) : Reads (w.alloc o) B size A n xs := h.keep fun p hp => World.cell?_alloc_lt w o p (by omega)
theorem Reads.setCell (h : Reads w B size A n xs) {p : Addr} (hB : B ≤ p.block) (u : Value) : Reads (w.setCell p u) B size A n xs :=
  h.keep fun q hq => World.cell?_setCell_other w p q u (fun e => by subst e; omega)
theorem Reads.grown (h : Reads w B size A n xs) {row : Option Nat} (hg : w.grownBy w' row) (hB : B ≤ w.heap.size) (hr : ∀ g, row = some g → B ≤ g) : Reads w' B size A n xs :=
  h.keep fun p hp => World.cell?_of_block (hg.block p.block (by omega) (fun e => by have := hr _ e.symm; omega))
theorem Reads.of_own {base : Nat} {e : TypeId} {c : Nat} (h : w.ownsRow base e size (.slice A n c) n xs) : Reads w w.heap.size size A n xs := by
  refine ⟨h.1, fun hn => ?_⟩
  rcases h.2 with ⟨_, h0⟩ | ⟨g, cap, cur, hv, hb, hg, rest⟩
  · omega
  · have hA : A = some ⟨g, 0, none⟩ := by injection hv
    subst hA
    refine ⟨g, 0, rfl, (Array.getElem?_eq_some_iff.1 hg).1, fun j u hu => ?_⟩
    have := World.ownsRow.cells (g := g) h rfl j u hu
    rw [Lib.add_plain] at this
    exact this
end

theorem flat_get {α β : Type} (f : α → List β) (m : Nat) (hf : ∀ x, (f x).length = m) : ∀ (l : List α) (k : Nat) (r : α) (j : Nat), l[k]? = some r → j < m → (l.flatMap f)[k * m + j]? = (f r)[j]? := by
  intro l
  induction l with
  | nil => intro k r j h; simp at h
  | cons a l ih =>
    intro k r j h hj
    rw [List.flatMap_cons]
    cases k with
    | zero =>
      have : a = r := by simpa using h
      subst this
      rw [Nat.zero_mul, Nat.zero_add, List.getElem?_append_left (by rw [hf]; exact hj)]
    | succ k =>
      rw [List.getElem?_append_right (by rw [hf, Nat.succ_mul]; omega), hf]
      rw [show (k + 1) * m + j - m = k * m + j from by rw [Nat.succ_mul]; omega]
      exact ih k r j (by simpa using h) hj

theorem flat_length {α β : Type} (f : α → List β) (m : Nat) (hf : ∀ x, (f x).length ≤ m) (l : List α) : (l.flatMap f).length ≤ l.length * m := by
  induction l with
  | nil => simp
  | cons a l ih =>
    have := hf a
    rw [List.flatMap_cons, List.length_append, List.length_cons, Nat.succ_mul]
    omega

theorem flat_length_mem {α β : Type} (f : α → List β) (m : Nat) (l : List α) (hf : ∀ x ∈ l, (f x).length ≤ m) : (l.flatMap f).length ≤ l.length * m := by
  induction l with
  | nil => simp
  | cons a l ih =>
    have := hf a (by simp)
    have := ih (fun x hx => hf x (by simp [hx]))
    rw [List.flatMap_cons, List.length_append, List.length_cons, Nat.succ_mul]
    omega

theorem take_flat_succ {α β : Type} (f : α → List β) (l : List α) (k : Nat) (r : α) (h : l[k]? = some r) : (l.take (k + 1)).flatMap f = (l.take k).flatMap f ++ f r := by
  rw [List.take_add_one, h]
  simp

end Go.Proofs.YtkgkhcfonlhphaaGreatDoor

/- An operation as values; the plain text of script.Show; what shows a field. -/
import Derived.Test.YtkgkhcfonlhphaaGreatDoorNames
import Derived.Maps.AppendAt
namespace Go.Proofs.YtkgkhcfonlhphaaGreatDoor
open Go.RowKit

structure OpV where
  kind : Int
  level : Int
  session : Int
  snap : Int
  bucket : ByteArray
  key : ByteArray
  value : ByteArray
  label : Int
  dst : Int
  n : Int
  keep : List ByteArray

structure OpV.ok (o : OpV) : Prop where
  kind : I64 o.kind
  level : I64 o.level
  session : I64 o.session
  snap : I64 o.snap
  label : I64 o.label
  dst : I64 o.dst
  n : I64 o.n
  bucket : o.bucket.size ≤ 1000
  key : o.key.size ≤ 1000
  value : o.value.size ≤ 1000
  keepN : o.keep.length ≤ 70
  keep : ∀ k ∈ o.keep, k.size ≤ 1000

def OpV.cells (o : OpV) (A : Option Addr) (c : Nat) : Array Value :=
  #[.int .i64 o.kind, .int .i64 o.level, .int .i64 o.session, .int .i64 o.snap, .string o.bucket, .string o.key, .string o.value, .int .i64 o.label, .int .i64 o.dst, .int .i64 o.n, .slice A o.keep.length c]

def numT (n : Int) : List UInt8 := if n = 0 then [] else Lib.itoa n
def strT (s : ByteArray) : List UInt8 := if s.size = 0 then [] else quoteL s.data.toList

/-- what the fields' shows tell -/
def fieldT (o : OpV) : List (List UInt8) := [numT o.level, numT o.session, numT o.snap, strT o.bucket, strT o.key, strT o.value, numT o.label, numT o.dst, numT o.n]
def fieldN (k : Nat) : List UInt8 := ((fieldKeys.map (·.2.2.2.data.toList)).getD k [])
def fieldW (o : OpV) (k : Nat) : List (List UInt8) := if (fieldT o).getD k [] = [] then [] else [fieldN k ++ 61 :: (fieldT o).getD k []]
def keepW (s : ByteArray) : List UInt8 := [107, 101, 101, 112, 61] ++ quoteL s.data.toList
def showW (o : OpV) : List (List UInt8) := (nameB o.kind).data.toList :: ((List.range 9).flatMap (fieldW o) ++ o.keep.map keepW)
def showL (o : OpV) : List UInt8 := if (nameB o.kind).size = 0 then [] else Lib.join (showW o) [32]

/-- the library's tables, and what of a world Show reads -/
structure Tabs2 (w : World) : Prop where
  tabs : Tabs w
  names : NamesAt w
  namesLt : 0 < w.heap.size
theorem Tabs2.below {w w' : World} (h : Tabs2 w) (hb : Below w.heap.size w w') : Tabs2 w' :=
  ⟨h.tabs.below hb, fun k s hk => by rw [hb.cell h.namesLt]; exact h.names k s hk, Nat.lt_of_lt_of_le h.namesLt hb.size⟩

theorem show_field (k : Nat) (x : Nat × Nat × Nat × ByteArray) (hx : fieldKeys[k]? = some x) (o : OpV) (ho : o.ok) (A : Option Addr) (c p b : Nat) (w : World)
    (hcell : ∀ j v, (o.cells A c)[j]? = some v → w.cell? ⟨p, j, none⟩ = some v) (hb : w.cell? ⟨b, 0, none⟩ = some (.func (.func x.1) #[] #[])) (hT : Tabs w) :
    Calls Tryz.prog x.2.1 #[.pointer (some ⟨p, 0, none⟩), .pointer (some ⟨b, 0, none⟩)] w fun e w' => e = .returned (.string ⟨((fieldT o).getD k []).toArray⟩) ∧ Below w.heap.size w w' := by
  match k, hx with
  | 0, hx => cases hx; exact show_num _ 1 p b o.level _ rfl w at1 hb (hcell 1 _ rfl) ho.level hT.pow
  | 1, hx => cases hx; exact show_num _ 2 p b o.session _ rfl w at2 hb (hcell 2 _ rfl) ho.session hT.pow
  | 2, hx => cases hx; exact show_num _ 3 p b o.snap _ rfl w at3 hb (hcell 3 _ rfl) ho.snap hT.pow
  | 3, hx => cases hx; exact show_text _ 4 p b o.bucket _ rfl w at4 hb (hcell 4 _ rfl) (by have := ho.bucket; omega) hT.utf
  | 4, hx => cases hx; exact show_text _ 5 p b o.key _ rfl w at5 hb (hcell 5 _ rfl) (by have := ho.key; omega) hT.utf
  | 5, hx => cases hx; exact show_text _ 6 p b o.value _ rfl w at6 hb (hcell 6 _ rfl) (by have := ho.value; omega) hT.utf
  | 6, hx => cases hx; exact show_num _ 7 p b o.label _ rfl w at7 hb (hcell 7 _ rfl) ho.label hT.pow
  | 7, hx => cases hx; exact show_num _ 8 p b o.dst _ rfl w at8 hb (hcell 8 _ rfl) ho.dst hT.pow
  | 8, hx => cases hx; exact show_num _ 9 p b o.n _ rfl w at9 hb (hcell 9 _ rfl) ho.n hT.pow
  | k + 9, hx => exact absurd hx (by simp [fieldKeys])

theorem show_enter (k : Nat) (x : Nat × Nat × Nat × ByteArray) (hx : fieldKeys[k]? = some x) : (∀ args w, (callFunc x.2.1 args).run Tryz.prog w = .ok (.enter x.2.1 args) w) ∧ ∀ args w, (callFunc x.2.2.1 args).run Tryz.prog w = .ok (.enter x.2.2.1 args) w := by
  have h1 : ∀ args w, (callFunc 68 args).run Tryz.prog w = .ok (.enter 68 args) w := fun args w => by go_simp
  have h2 : ∀ args w, (callFunc 71 args).run Tryz.prog w = .ok (.enter 71 args) w := fun args w => by go_simp
  have h3 : ∀ args w, (callFunc 69 args).run Tryz.prog w = .ok (.enter 69 args) w := fun args w => by go_simp
  have h4 : ∀ args w, (callFunc 72 args).run Tryz.prog w = .ok (.enter 72 args) w := fun args w => by go_simp
  match k, hx with
  | 0, hx => cases hx; exact ⟨h1, h3⟩
  | 1, hx => cases hx; exact ⟨h1, h3⟩
  | 2, hx => cases hx; exact ⟨h1, h3⟩
  | 3, hx => cases hx; exact ⟨h2, h4⟩
  | 4, hx => cases hx; exact ⟨h2, h4⟩
  | 5, hx => cases hx; exact ⟨h2, h4⟩
  | 6, hx => cases hx; exact ⟨h1, h3⟩
  | 7, hx => cases hx; exact ⟨h1, h3⟩
  | 8, hx => cases hx; exact ⟨h1, h3⟩
  | k + 9, hx => exact absurd hx (by simp [fieldKeys])

/-- a row's block is none of the fields' -/
def OffFields (v : Value) (g : Nat) (bs : List Nat) : Prop := ∀ q, v.ownBlock = some q → q ≠ g ∧ q ∉ bs

theorem FieldsAt.grown {w w' : World} {g : Nat} {bs : List Nat} {v : Value} (h : FieldsAt w g bs) (hg : w.grownBy w' v.ownBlock) (hsz : w.heap.size ≤ w'.heap.size) (ho : OffFields v g bs) : FieldsAt w' g bs := by
  have hc : ∀ p : Addr, p.block < w.heap.size → v.ownBlock ≠ some p.block → w'.cell? p = w.cell? p := fun p hp hn => World.cell?_of_block (hg.block p.block hp (fun e => hn e.symm))
  exact ⟨h.len, fun k v hv => by rw [hc _ h.glt (fun e => (ho _ e).1 rfl)]; exact h.row k v hv, Nat.lt_of_lt_of_le h.glt hsz, fun b hbm => Nat.lt_of_lt_of_le (h.blt b hbm) hsz,
   fun k x b hx hbk => by rw [hc _ (h.blt b (List.mem_of_getElem? hbk)) (fun e => (ho _ e).2 (List.mem_of_getElem? hbk))]; exact h.box k x b hx hbk⟩

theorem field_get (bs : List Nat) (k : Nat) (x : Nat × Nat × Nat × ByteArray) (b j : Nat) (hx : fieldKeys[k]? = some x) (hb : bs[k]? = some b) (hj : j < 3) : ((fieldKeys.zip bs).flatMap fieldCells)[k * 3 + j]? = (fieldCells (x, b))[j]? :=
  flat_get fieldCells 3 (fun _ => rfl) _ k (x, b) j (by rw [List.getElem?_zip_eq_some]; exact ⟨hx, hb⟩) hj

theorem fieldW_length (o : OpV) (k : Nat) : (fieldW o k).length ≤ 1 := by
  unfold fieldW
  split <;> simp

theorem words_upto (o : OpV) (k : Nat) : ((List.range k).flatMap (fieldW o)).length ≤ k := by
  have := flat_length (fieldW o) 1 (fieldW_length o) (List.range k)
  rw [List.length_range] at this
  omega

theorem words_step (o : OpV) (k : Nat) : (List.range (k + 1)).flatMap (fieldW o) = (List.range k).flatMap (fieldW o) ++ fieldW o k := by
  rw [List.range_succ, List.flatMap_append]
  simp

theorem fieldN_of {k : Nat} {x : Nat × Nat × Nat × ByteArray} (hx : fieldKeys[k]? = some x) : fieldN k = x.2.2.2.data.toList := by
  unfold fieldN
  rw [List.getD_eq_getElem?_getD, List.getElem?_map, hx]
  rfl

theorem fieldKeys_size {k : Nat} {x : Nat × Nat × Nat × ByteArray} (hx : fieldKeys[k]? = some x) : x.2.2.2.size ≤ 7 := by
  have h : ∀ y ∈ fieldKeys, y.2.2.2.size ≤ 7 := by decide
  exact h x (List.mem_of_getElem? hx)

theorem numT_length (n : Int) (h : I64 n) : (numT n).length ≤ 21 := by
  unfold numT
  split
  · simp
  · exact itoa_length n h.1 h.2

theorem strT_length (s : ByteArray) (h : s.size ≤ 1000) : (strT s).length ≤ 3002 := by
  unfold strT
  split
  · simp
  · have := quote_len s
    omega

theorem fieldT_length (o : OpV) (ho : o.ok) (k : Nat) : ((fieldT o).getD k []).length ≤ 3002 := by
  have h : ∀ y ∈ fieldT o, y.length ≤ 3002 := by
    intro y hy
    simp only [fieldT, List.mem_cons, List.not_mem_nil, or_false] at hy
    rcases hy with rfl | rfl | rfl | rfl | rfl | rfl | rfl | rfl | rfl
    · have := numT_length _ ho.level; omega
    · have := numT_length _ ho.session; omega
    · have := numT_length _ ho.snap; omega
    · exact strT_length _ ho.bucket
    · exact strT_length _ ho.key
    · exact strT_length _ ho.value
    · have := numT_length _ ho.label; omega
    · have := numT_length _ ho.dst; omega
    · have := numT_length _ ho.n; omega
  rw [List.getD_eq_getElem?_getD]
  cases hk : (fieldT o)[k]? with
  | none => simp
  | some y => exact h y (List.mem_of_getElem? hk)

theorem nameB_size (k : Int) : (nameB k).size ≤ 10 := by
  unfold nameB
  split
  · exact Nat.zero_le 10
  · have h : ∀ y ∈ kindNames, y.size ≤ 10 := by decide
    rw [List.getD_eq_getElem?_getD]
    cases hk : kindNames[k.toNat]? with
    | none => exact Nat.zero_le 10
    | some y => exact h y (List.mem_of_getElem? hk)

theorem fieldN_length (k : Nat) : (fieldN k).length ≤ 7 := by
  have h : ∀ y ∈ fieldKeys.map (·.2.2.2.data.toList), y.length ≤ 7 := by decide
  unfold fieldN
  rw [List.getD_eq_getElem?_getD]
  cases hk : (fieldKeys.map (·.2.2.2.data.toList))[k]? with
  | none => simp
  | some y => exact h y (List.mem_of_getElem? hk)

theorem fieldW_mem (o : OpV) (ho : o.ok) (k : Nat) (x : List UInt8) (hx : x ∈ fieldW o k) : x.length ≤ 3010 := by
  unfold fieldW at hx
  split at hx
  · simp at hx
  · have h1 := fieldT_length o ho k
    have h2 := fieldN_length k
    simp only [List.mem_cons, List.not_mem_nil, or_false] at hx
    subst hx
    simp only [List.length_append, List.length_cons]
    omega

theorem showW_length (o : OpV) (ho : o.ok) : (Lib.join (showW o) [32]).length ≤ 400000 := by
  unfold showW
  rw [join_cons, List.length_append]
  have hn : (nameB o.kind).data.toList.length ≤ 10 := by simpa using nameB_size o.kind
  have hr := flat_length_mem (fun x : List UInt8 => 32 :: x) 3011 ((List.range 9).flatMap (fieldW o) ++ o.keep.map keepW) (by
    intro x hx
    rw [List.length_cons]
    rcases List.mem_append.1 hx with h | h
    · obtain ⟨k, _, hk⟩ := List.mem_flatMap.1 h
      have := fieldW_mem o ho k x hk
      omega
    · obtain ⟨s, hs, rfl⟩ := List.mem_map.1 h
      have h1 := ho.keep s hs
      have h2 := quote_len s
      simp only [keepW, List.length_append, List.length_cons, List.length_nil]
      omega)
  have hl : ((List.range 9).flatMap (fieldW o) ++ o.keep.map keepW).length ≤ 79 := by
    have h1 := words_upto o 9
    have h2 := ho.keepN
    simp only [List.length_append, List.length_map]
    omega
  have := Nat.mul_le_mul_right 3011 hl
  omega

end Go.Proofs.YtkgkhcfonlhphaaGreatDoor

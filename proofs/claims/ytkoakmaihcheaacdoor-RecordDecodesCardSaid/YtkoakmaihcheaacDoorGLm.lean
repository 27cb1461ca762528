/- The arguments of a law, as cells: from what they read as. And the step from a call that only reads to a law's row. -/
import Derived.Test.YtkoakmaihcheaacDoorGLk
import Derived.ProofKit
import Derived.OpenShut
import Derived.ShutString
import Derived.ChangeOld
import Derived.Below
import Derived.Carry
import Derived.Deep.Slices
namespace Go.GL
open Go Go.ChangeShapes Go.WideShapes Go.RowKit Go.Deep

/-- What one cell may hold. -/
inductive Lf
  | int (k : IntKind)
  | bool
  | str
def Lf.ok : Lf → Value → Prop
  | .int k, v => ∃ n, v = .int k n ∧ (Lit.int k n).wf = true
  | .bool, v => ∃ b, v = .bool b
  | .str, v => ∃ s, v = .string s ∧ s.size ≤ maxLen
def LfsOk : List Lf → List Value → Prop
  | [], [] => True
  | l :: r, v :: s => l.ok v ∧ LfsOk r s
  | _, _ => False
theorem LfsOk.len : ∀ {l : List Lf} {c : List Value}, LfsOk l c → c.length = l.length
  | [], [], _ => rfl
  | _ :: _, _ :: _, h => by simp [LfsOk.len h.2]
  | [], _ :: _, h => h.elim
  | _ :: _, [], h => h.elim
theorem LfsOk.app : ∀ {l m : List Lf} {c d : List Value}, LfsOk l c → LfsOk m d → LfsOk (l ++ m) (c ++ d)
  | [], _, [], _, _, h => h
  | _ :: _, _, _ :: _, _, h, k => ⟨h.1, LfsOk.app h.2 k⟩
  | [], _, _ :: _, _, h, _ => h.elim
  | _ :: _, _, [], _, h, _ => h.elim
theorem LfsOk.nil {x : List Value} (h : LfsOk [] x) : x = [] := by
  cases x with
  | nil => rfl
  | cons => exact h.elim
theorem LfsOk.int {k : IntKind} {r : List Lf} {x : List Value} (h : LfsOk (.int k :: r) x) : ∃ n s, x = .int k n :: s ∧ (Lit.int k n).wf = true ∧ LfsOk r s := by
  cases x with
  | nil => exact h.elim
  | cons v s => obtain ⟨⟨n, e, w⟩, z⟩ := h; exact ⟨n, s, by rw [e], w, z⟩
theorem LfsOk.bool {r : List Lf} {x : List Value} (h : LfsOk (.bool :: r) x) : ∃ b s, x = .bool b :: s ∧ LfsOk r s := by
  cases x with
  | nil => exact h.elim
  | cons v s => obtain ⟨⟨n, e⟩, z⟩ := h; exact ⟨n, s, by rw [e], z⟩
theorem LfsOk.str {r : List Lf} {x : List Value} (h : LfsOk (.str :: r) x) : ∃ b s, x = .string b :: s ∧ b.size ≤ maxLen ∧ LfsOk r s := by
  cases x with
  | nil => exact h.elim
  | cons v s => obtain ⟨⟨n, e, w⟩, z⟩ := h; exact ⟨n, s, by rw [e], w, z⟩
def leafsF (P : Program) (f : TypeId → Option (List Lf)) : Nat → List Field → Option (List Lf)
  | _, [] => some []
  | off, x :: r => match f x.type with
    | some a => if x.offset = off ∧ P.cellsOf x.type = a.length then (leafsF P f (off + a.length) r).map (a ++ ·) else none
    | none => none
/-- The cells of a type without slices and pointers. -/
def leafs (P : Program) : Nat → TypeId → Option (List Lf)
  | 0, _ => none
  | n + 1, t => match P.underlying t with
    | some (.int k) => some [.int k]
    | some .bool => some [.bool]
    | some .string => some [.str]
    | some (.struct fs) => match leafsF P (leafs P n) 0 fs.toList with
      | some l => if P.cellsOf t = l.length then some l else none
      | none => none
    | _ => none
section
variable {H : Type} {enc : TypeId × Value → H} {P : Program} {w : World} {base : Nat} {spare : Nat → Bool} {held : Bool}
theorem leafsF_ok {f : TypeId → Option (List Lf)} {q : TypeId → List Value → Prop} (hq : ∀ t a c, f t = some a → q t c → LfsOk a c) {cs : List Value} : ∀ (fs : List Field) (off : Nat) (l : List Lf), leafsF P f off fs = some l →
    (∀ x ∈ fs, q x.type ((cs.drop x.offset).take (P.cellsOf x.type))) → cs.length = off + l.length → LfsOk l (cs.drop off)
  | [], off, l, h, _, hl => by
    simp only [leafsF, Option.some.injEq] at h
    subst h
    rw [List.drop_eq_nil_of_le (by simp at hl; omega)]
    trivial
  | x :: r, off, l, h, hx, hl => by
    simp only [leafsF] at h
    split at h
    · rename_i a ha
      split at h
      · rename_i hc
        obtain ⟨m, hm, rfl⟩ := Option.map_eq_some_iff.1 h
        have h1 := hq _ _ _ ha (hx x List.mem_cons_self)
        rw [hc.1, hc.2] at h1
        have h2 := leafsF_ok hq r (off + a.length) m hm (fun y hy => hx y (List.mem_cons_of_mem _ hy)) (by rw [hl, List.length_append]; omega)
        have h3 := h1.app h2
        rw [← List.drop_drop, List.take_append_drop] at h3
        exact h3
      · cases h
    · cases h
theorem leafs_ok : ∀ (n : Nat) (t : TypeId) (l : List Lf) (cs : List Value), leafs P n t = some l → (∃ fuel x, DataW.trod enc P w base spare held fuel t cs = some x) → LfsOk l cs
  | 0, _, _, _, h, _ => by cases h
  | n + 1, t, l, cs, h, ⟨fuel, x, hx⟩ => by
    simp only [leafs] at h
    split at h
    · rename_i k hk
      cases h
      obtain ⟨z, rfl, _, hz⟩ := DataW.trod_int hk hx
      exact ⟨⟨z, rfl, hz⟩, trivial⟩
    · rename_i hk
      cases h
      obtain ⟨z, rfl, _⟩ := DataW.trod_bool hk hx
      exact ⟨⟨z, rfl⟩, trivial⟩
    · rename_i hk
      cases h
      obtain ⟨z, rfl, _, hz⟩ := DataW.trod_string hk hx
      exact ⟨⟨z, rfl, hz⟩, trivial⟩
    · rename_i fs hk
      split at h
      · rename_i l' hl'
        split at h
        · rename_i hc
          cases h
          obtain ⟨xs, m, _, _, hlen, hsz, hf⟩ := DataW.trod_struct hk hx
          have := leafsF_ok (P := P) (f := leafs P n) (q := fun t cs => ∃ fuel x, DataW.trod enc P w base spare held fuel t cs = some x) (fun t a c ha hy => leafs_ok n t a c ha hy) (cs := cs) fs.toList 0 l hl' (fun y hy => by
            obtain ⟨i, hi, rfl⟩ := List.getElem_of_mem hy
            have hi' : i < fs.size := by simpa using hi
            have := hf i fs[i] (by simp [hi'])
            rw [List.getElem?_eq_getElem (by omega)] at this
            exact ⟨m, _, by simpa using this⟩) (by omega)
          simpa using this
        · cases h
      · cases h
    · cases h

theorem cells?_row {a : Addr} {n : Nat} {cs : List Value} (h : w.cells? base a n = some cs) : cs.length = n ∧ ∀ i v, cs[i]? = some v → w.cell? (a.add i) = some v := by
  unfold World.cells? at h
  split at h
  · have hl := mapM_some_length h
    have hl : cs.length = n := by simpa using hl
    refine ⟨hl, fun i v hi => ?_⟩
    have hlt : i < n := by rw [← hl]; exact (List.getElem?_eq_some_iff.1 hi).1
    have := mapM_some_get h i i (by simp [hlt])
    rw [this, hi]
  · cases h

/-- A struct by value. -/
theorem open_val {n : Nat} {t : TypeId} {fs : Array Field} {v : Value} {d : DataW H} {p : List MemPlace} {r : Reach} {b0 : Nat} {l : List Lf} (hs : P.underlying t = some (.struct fs)) (hl : leafs P n t = some l)
    (hv : Value.okWide P w r b0 t v) (h : DataW.Trod enc P w base spare held t v d p) : ∃ cs : List Value, v = .agg cs.toArray ∧ LfsOk l cs := by
  obtain ⟨cs, rfl, _⟩ := okWide_struct hs hv
  obtain ⟨fuel, hf⟩ := h
  exact ⟨cs.toList, by simp, leafs_ok n t l _ hl ⟨fuel, _, hf⟩⟩
theorem has_block {r : Reach} {b0 : Nat} {a : Addr} {e : TypeId} {n : Nat} (h : w.has P r b0 a e n) : ∃ b off, a = ⟨b, off, none⟩ ∧ ∃ (c : Array Value) (T : TypeId) (fr : Nat × Nat), w.heap[b]? = some (.cells c T fr) := by
  obtain ⟨_, hs, row, cells, hsh, _⟩ := h
  obtain ⟨b, off, spot⟩ := a
  cases hs
  refine ⟨b, off, rfl, ?_⟩
  unfold World.shape? at hsh
  split at hsh
  · rename_i c T fr hh; exact ⟨c, T, fr, hh⟩
  · cases hsh
/-- A slice whose elements are such. -/
theorem open_row {n : Nat} {t e : TypeId} {v : Value} {d : DataW H} {p : List MemPlace} {r : Reach} {b0 : Nat} {l : List Lf} (hs : P.underlying t = some (.slice e)) (hl : leafs P n e = some l) (hc : P.cellsOf e = l.length)
    (hv : Value.okWide P w r b0 t v) (h : DataW.Trod enc P w base spare held t v d p) :
    ∃ (a : Option Addr) (len cap : Nat) (rows : List (List Value)), v = .slice a len cap ∧ rows.length = len ∧ len ≤ cap ∧ cap ≤ maxLen ∧ (∀ x ∈ rows, LfsOk l x) ∧ readS a len l.length rows.flatten (hpOf w) := by
  obtain ⟨a, len, cap, rfl⟩ := okWide_slice hs hv
  obtain ⟨fuel, hf⟩ := h
  rcases open_slice hs hf with ⟨hcs, _⟩ | ⟨x, l', c', m, n', D, Pl, hcs, _, hle, hmax, hm, _, hel⟩
  · simp [Value.cells] at hcs
    obtain ⟨rfl, rfl, rfl⟩ := hcs
    exact ⟨none, 0, 0, [], rfl, rfl, Nat.le_refl _, Nat.zero_le _, by simp, by simp, .inl ⟨rfl, rfl⟩⟩
  · simp [Value.cells] at hcs
    obtain ⟨rfl, rfl, rfl⟩ := hcs
    have hhas : w.has P r b0 x e cap := by
      simp only [Value.okWide, hs, Cell.okWide, Cell.ok] at hv
      exact hv.2.2
    obtain ⟨b, off, rfl, c, T, fr, hb⟩ := has_block hhas
    have hlm : len ≤ m := by rw [hm]; split <;> omega
    have hch : ∃ f : Nat → List Value, ∀ i, i < len → w.cells? base ((⟨b, off, none⟩ : Addr).add (i * P.cellsOf e)) (P.cellsOf e) = some (f i) ∧ LfsOk l (f i) := by
      refine choose_lt (α := List Value) (p := fun i c => w.cells? base ((⟨b, off, none⟩ : Addr).add (i * P.cellsOf e)) (P.cellsOf e) = some c ∧ LfsOk l c) fun i hi => ?_
      obtain ⟨cs', h1, h2⟩ := hel i (by omega)
      exact ⟨cs', h1, leafs_ok n e l cs' hl ⟨n', _, h2⟩⟩
    obtain ⟨f, hf'⟩ := hch
    have hrows : ∀ x ∈ (List.range len).map f, LfsOk l x := by
      intro x hx
      obtain ⟨i, hi, rfl⟩ := List.mem_map.1 hx
      exact (hf' i (List.mem_range.1 hi)).2
    have hlen : ∀ (rs : List (List Value)), (∀ x ∈ rs, LfsOk l x) → rs.flatten.length = rs.length * l.length := by
      intro rs
      induction rs with
      | nil => simp
      | cons x rs ih =>
        intro hx
        rw [List.flatten_cons, List.length_append, ih (fun y hy => hx y (List.mem_cons_of_mem _ hy)), (hx x List.mem_cons_self).len, List.length_cons, Nat.succ_mul]
        omega
    refine ⟨_, len, cap, (List.range len).map f, rfl, by simp, hle, hmax, hrows, by rw [hlen _ hrows]; simp, .inr ⟨b, off, rfl, c, T, fr, hpOf_obj.2 hb, ?_⟩⟩
    have key : ∀ (k : Nat), k ≤ len → ∀ j v, ((List.range k).map f).flatten[j]? = some v → c[off + j]? = some v := by
      intro k
      induction k with
      | zero => intro _ j v hj; simp at hj
      | succ k ih =>
        intro hk j v hj
        rw [List.range_succ, List.map_append, List.flatten_append] at hj
        by_cases hlt : j < ((List.range k).map f).flatten.length
        · rw [List.getElem?_append_left hlt] at hj
          exact ih (by omega) j v hj
        · rw [List.getElem?_append_right (by omega)] at hj
          have hfl := hlen ((List.range k).map f) (fun x hx => by
            obtain ⟨i, hi, rfl⟩ := List.mem_map.1 hx
            exact (hf' i (by have := List.mem_range.1 hi; omega)).2)
          simp only [List.length_map, List.length_range] at hfl
          simp only [List.map_cons, List.map_nil, List.flatten_cons, List.flatten_nil, List.append_nil] at hj
          have h2 := (cells?_row (hf' k (by omega)).1).2 _ _ hj
          rw [hfl] at h2 hlt
          rw [add_add, hc] at h2
          have e : k * l.length + (j - k * l.length) = j := by omega
          rw [e] at h2
          unfold World.cell? at h2
          have e2 : ((⟨b, off, none⟩ : Addr).add j).block = b ∧ ((⟨b, off, none⟩ : Addr).add j).off = off + j ∧ ((⟨b, off, none⟩ : Addr).add j).spot = none := by
            unfold Addr.add
            split
            · rename_i h0; have : j = 0 := by simpa using h0
              subst this; exact ⟨rfl, rfl, rfl⟩
            · exact ⟨rfl, rfl, rfl⟩
          rw [e2.1, hb, e2.2.1, e2.2.2] at h2
          simpa using h2
    exact key len (Nat.le_refl _)
end
theorem rows_enc {α : Type} {enc : α → List Value} {q : α → Prop} : ∀ {rows : List (List Value)}, (∀ x ∈ rows, ∃ o, x = enc o ∧ q o) → ∃ l : List α, rows.flatten = l.flatMap enc ∧ l.length = rows.length ∧ ∀ o ∈ l, q o
  | [], _ => ⟨[], rfl, rfl, fun _ h => nomatch h⟩
  | x :: r, h => by
    obtain ⟨o, rfl, ho⟩ := h x List.mem_cons_self
    obtain ⟨l, h1, h2, h3⟩ := rows_enc (rows := r) (fun y hy => h y (List.mem_cons_of_mem _ hy))
    refine ⟨o :: l, by simp [h1], by simp [h2], fun z hz => ?_⟩
    rcases List.mem_cons.1 hz with rfl | hz
    · exact ho
    · exact h3 z hz
theorem rows_ints {k : IntKind} {rows : List (List Value)} (h : ∀ x ∈ rows, LfsOk [.int k] x) : ∃ l : List Int, rows.flatten = l.map (Value.int k) ∧ l.length = rows.length ∧ ∀ n ∈ l, (Lit.int k n).wf = true := by
  obtain ⟨l, h1, h2, h3⟩ := rows_enc (enc := fun n => [Value.int k n]) (q := fun n => (Lit.int k n).wf = true) (rows := rows) (fun x hx => by
    obtain ⟨n, s, rfl, w, z⟩ := (h x hx).int
    exact ⟨n, by rw [z.nil], w⟩)
  exact ⟨l, by rw [h1]; clear h1 h2 h3; induction l with | nil => rfl | cons a r ih => simp [ih], h2, h3⟩
theorem rows_strs {rows : List (List Value)} (h : ∀ x ∈ rows, LfsOk [.str] x) : ∃ l : List ByteArray, rows.flatten = l.map Value.string ∧ l.length = rows.length ∧ ∀ s ∈ l, s.size ≤ maxLen := by
  obtain ⟨l, h1, h2, h3⟩ := rows_enc (enc := fun n => [Value.string n]) (q := fun s => s.size ≤ maxLen) (rows := rows) (fun x hx => by
    obtain ⟨n, s, rfl, w, z⟩ := (h x hx).str
    exact ⟨n, by rw [z.nil], w⟩)
  exact ⟨l, by rw [h1]; clear h1 h2 h3; induction l with | nil => rfl | cons a r ih => simp [ih], h2, h3⟩
theorem wf_u8 {n : Int} (h : (Lit.int .u8 n).wf = true) : 0 ≤ n ∧ n ≤ 255 := by
  simp [Lit.wf, IntKind.min, IntKind.max, IntKind.signed, IntKind.bits] at h
  omega
theorem wf_i64 {n : Int} (h : (Lit.int .i64 n).wf = true) : -9223372036854775808 ≤ n ∧ n ≤ 9223372036854775807 := by
  simp [Lit.wf, IntKind.min, IntKind.max, IntKind.signed, IntKind.bits] at h
  omega
theorem wf_u32 {n : Int} (h : (Lit.int .u32 n).wf = true) : 0 ≤ n ∧ n ≤ 4294967295 := by
  simp [Lit.wf, IntKind.min, IntKind.max, IntKind.signed, IntKind.bits] at h
  omega
theorem wf_u64 {n : Int} (h : (Lit.int .u64 n).wf = true) : 0 ≤ n ∧ n ≤ 18446744073709551615 := by
  simp [Lit.wf, IntKind.min, IntKind.max, IntKind.signed, IntKind.bits] at h
  omega
theorem byte_of {n : Int} (h : (Lit.int .u8 n).wf = true) : ∃ x : UInt8, n = (x.toNat : Int) := by
  have := wf_u8 h
  exact ⟨UInt8.ofNat n.toNat, by rw [UInt8.toNat_ofNat']; omega⟩
theorem rows_bytes {rows : List (List Value)} (h : ∀ x ∈ rows, LfsOk [.int .u8] x) : ∃ l : List UInt8, rows.flatten = l.map byteV ∧ l.length = rows.length ∧ True := by
  obtain ⟨l, h1, h2, _⟩ := rows_enc (enc := fun n => [byteV n]) (q := fun _ => True) (rows := rows) (fun x hx => by
    obtain ⟨n, s, rfl, w, z⟩ := (h x hx).int
    obtain ⟨y, rfl⟩ := byte_of w
    exact ⟨y, by rw [z.nil]; rfl, trivial⟩)
  exact ⟨l, by rw [h1]; clear h1 h2; induction l with | nil => rfl | cons a r ih => simp [ih], h2, trivial⟩
/-- Nothing that was there has turned. -/
theorem Ext.keptBut {w w' : World} (h : Ext w w') (may : MemPlace → Prop) : w.keptBut w' may := by
  refine ⟨h.os.1, h.os.2, fun i hi => ?_⟩
  rw [h.block hi]
  split <;> simp_all
theorem Ext.same {w w' : World} (h : Ext w w') {p : MemPlace} (hp : p.block < w.heap.size) : w.sameAt w' p := by
  cases p with
  | cell b o => exact World.cell?_of_block (w := w) (h.block hp)
  | map b => exact h.block hp
/-- An argument reads as it did. -/
theorem Ext.trod {H : Type} {enc : TypeId × Value → H} {P : Program} {t : TypeId} (hl : laidOutB P = true) (hr : P.readableRec t = true) (hrow : t < P.types.size) {W W' : World} {v : Value} {d : DataW H} {ps : List MemPlace}
    (h : DataW.Trod enc P W 0 (fun _ => true) true t v d ps) (hb : Ext W W') :
    DataW.Trod enc P W' 0 (fun b => decide (b < W.heap.size)) true t v d ps := by
  have hlt : ∀ x ∈ ps, x.block < W.heap.size := by obtain ⟨m, hm⟩ := h; exact DataW.trod_lt m _ _ _ hm
  exact WideElems.Trod_stays hl hr hrow h (fun x hx => hb.same (hlt x hx)) (fun x hx => by simpa using hlt x hx)
end Go.GL

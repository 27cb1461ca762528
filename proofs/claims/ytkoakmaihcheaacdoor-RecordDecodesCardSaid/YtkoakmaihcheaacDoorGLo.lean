/- Slices cut; bytes. -/
import Derived.Test.YtkoakmaihcheaacDoorGLn
namespace Go.GL
open Go
theorem cutA_none (cap l size : Nat) : cutA none cap l size = none := by unfold cutA; split <;> rfl
theorem readS_cut {a : Option Addr} {n size i cap : Nat} {cs : List Value} {h : Hp} (x : readS a n size cs h) (hi : i ≤ n) (hc : n ≤ cap) : readS (cutA a cap i size) (n - i) size (cs.drop (i * size)) h := by
  obtain ⟨e, ⟨rfl, rfl⟩ | ⟨b, off, rfl, hcell⟩⟩ := x
  · refine ⟨by rw [List.length_drop, e, Nat.sub_mul], .inl ⟨cutA_none _ _ _, by omega⟩⟩
  · refine ⟨by rw [List.length_drop, e, Nat.sub_mul], .inr ?_⟩
    unfold cutA
    split
    · rename_i hci
      have : i = n := by omega
      subst this
      rw [List.drop_eq_nil_of_le (by omega)]
      obtain ⟨c, T, fr, hb, _⟩ := hcell
      exact ⟨b, off, rfl, c, T, fr, hb, fun i v hi => by simp at hi⟩
    · refine ⟨b, off + i * size, by simp [addr_add], ?_⟩
      obtain ⟨c, T, fr, hb, hx⟩ := hcell
      refine ⟨c, T, fr, hb, fun j v hj => ?_⟩
      rw [List.getElem?_drop] at hj
      have := hx _ _ hj
      rwa [← Nat.add_assoc] at this
theorem readS_take {a : Option Addr} {n size m : Nat} {cs : List Value} {h : Hp} (x : readS a n size cs h) (hm : m ≤ n) : readS a m size (cs.take (m * size)) h := by
  have hle : m * size ≤ n * size := Nat.mul_le_mul_right _ hm
  obtain ⟨e, ⟨rfl, rfl⟩ | ⟨b, off, rfl, hcell⟩⟩ := x
  · exact ⟨by rw [List.length_take, e]; omega, .inl ⟨rfl, by omega⟩⟩
  · refine ⟨by rw [List.length_take, e]; omega, .inr ⟨b, off, rfl, ?_⟩⟩
    obtain ⟨c, T, fr, hb, hx⟩ := hcell
    refine ⟨c, T, fr, hb, fun j v hj => ?_⟩
    rw [List.getElem?_take] at hj
    split at hj
    · exact hx _ _ hj
    · cases hj
/-- bytes as a string -/
def ba (l : List UInt8) : ByteArray := ⟨l.toArray⟩
theorem strCells_ba (l : List UInt8) : strCells (ba l) = l.map byteV := by simp [strCells, ba]
theorem ba_size (l : List UInt8) : (ba l).size = l.length := by simp [ba, ByteArray.size]
theorem ba_data (s : ByteArray) : ba s.data.toList = s := by cases s; simp [ba]
/-- a slice of bytes that can be read -/
def Bytes (A : Assn) (l : List UInt8) (v : Value) : Prop := ∃ a n c, v = .slice a n c ∧ n = l.length ∧ n ≤ c ∧ ∀ h, A h → readS a n 1 (l.map byteV) h
theorem flatAt {α : Type} (enc : α → List Value) (m : Nat) (he : ∀ x, (enc x).length = m) (l : List α) (k : Nat) (h : k < l.length) : enc l[k] = ((l.flatMap enc).drop (k * m)).take m := by
  induction l generalizing k with
  | nil => simp at h
  | cons c r ih =>
    cases k with
    | zero => simp [← he c]
    | succ k =>
      have e : (k + 1) * m = m + k * m := by rw [Nat.succ_mul, Nat.add_comm]
      have := ih k (by simpa using h)
      simp only [List.flatMap_cons, List.getElem_cons_succ]
      rw [this, e, ← List.drop_drop, List.drop_left' (he c)]
theorem flatGet {α : Type} (enc : α → List Value) (m : Nat) (he : ∀ x, (enc x).length = m) (l : List α) (k j : Nat) (h : k < l.length) (hj : j < m) : (l.flatMap enc)[k * m + j]? = (enc l[k])[j]? := by
  rw [flatAt enc m he l k h, List.getElem?_take, if_pos hj, List.getElem?_drop]
theorem flatLen {α : Type} (enc : α → List Value) (m : Nat) (he : ∀ x, (enc x).length = m) (l : List α) : (l.flatMap enc).length = l.length * m := by
  induction l with
  | nil => simp
  | cons a r ih => rw [List.flatMap_cons, List.length_append, he, ih, List.length_cons, Nat.succ_mul]; omega
end Go.GL

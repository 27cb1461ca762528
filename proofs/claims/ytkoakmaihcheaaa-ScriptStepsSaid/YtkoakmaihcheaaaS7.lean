/- Contracts of functions of the given program, and plain laws on what they compute: parts of the proofs of laws. -/
import Derived.Test.YtkoakmaihcheaaaS6

namespace Go.Proofs.Ytkoakmaihcheaaa
open Go Go.GL

theorem decM_skip {acc : List St} {c : UInt8} {t : List UInt8} (h : (c.toNat : Int) < 1 ∨ 17 < (c.toNat : Int)) : decM acc (c :: t) = decM acc t := by rw [decM_cons, if_pos h]
theorem decM_step {acc : List St} {c : UInt8} {t r : List UInt8} {st : St} (hc : 1 ≤ (c.toNat : Int) ∧ (c.toNat : Int) ≤ 17) (h : stepM c.toNat acc.length (t, false) = (st, (r, false))) : decM acc (c :: t) = decM (acc ++ [st]) r := by
  rw [decM_cons, if_neg (by omega), h, if_neg (by simp)]
def chunkA (odd : UInt8) (data : ByteArray) (x : UInt8) : List UInt8 := [odd, 1, x % 4, x % 8, UInt8.ofNat data.size]
def chunkB (x : UInt8) : List UInt8 := [4, x, 14, x % 4, x, 16, x % 4, x % 2, 10]
def chunk (odd : UInt8) (data : ByteArray) (x : UInt8) : List UInt8 := chunkA odd data x ++ (data.data.toList ++ chunkB x)
def want (data : ByteArray) (i : Nat) (x : UInt8) : List St :=
  [(1, (x.toNat : Int) % 4, 0, (x.toNat : Int) % 8, 5 * (i : Int), data, 0), (4, 0, (x.toNat : Int), 0, 0, ⟨#[]⟩, 0), (14, 0, (x.toNat : Int), 0, (x.toNat : Int) % 4 + 1, ⟨#[]⟩, 0), (16, (x.toNat : Int) % 4, 0, 0, (x.toNat : Int) % 2, ⟨#[]⟩, 0), (10, 0, 0, 0, 0, ⟨#[]⟩, 0)]
def wants (data : ByteArray) : Nat → List UInt8 → List St
  | _, [] => []
  | i, x :: r => want data i x ++ wants data (i + 1) r
theorem mod4 (x : UInt8) : ((x % 4).toNat : Int) = (x.toNat : Int) % 4 := by rw [UInt8.toNat_mod]; rfl
theorem mod8 (x : UInt8) : ((x % 8).toNat : Int) = (x.toNat : Int) % 8 := by rw [UInt8.toNat_mod]; rfl
theorem mod2 (x : UInt8) : ((x % 2).toNat : Int) = (x.toNat : Int) % 2 := by rw [UInt8.toNat_mod]; rfl
theorem chunk_dec {odd : UInt8} {data : ByteArray} {x : UInt8} (hodd : (odd.toNat : Int) < 1 ∨ 17 < (odd.toNat : Int)) (hd : data.size ≤ 16) (acc : List St) (rest : List UInt8) (i : Nat) (hi : acc.length = 5 * i) :
    decM acc (chunk odd data x ++ rest) = decM (acc ++ want data i x) rest := by
  have hx : x.toNat < 256 := x.toNat_lt
  have hlen : data.data.toList.length = data.size := Array.length_toList
  have hof : ((UInt8.ofNat data.size).toNat : Int) = data.size := by rw [UInt8.toNat_ofNat']; omega
  unfold chunk chunkA
  simp only [List.cons_append, List.nil_append, List.append_assoc]
  rw [decM_skip hodd]
  rw [decM_step (r := chunkB x ++ rest) (st := (1, (x.toNat : Int) % 4, 0, (x.toNat : Int) % 8, 5 * (i : Int), data, 0)) (by decide) ?_]
  · unfold chunkB
    simp only [List.cons_append, List.nil_append]
    rw [decM_step (r := 14 :: x % 4 :: x :: 16 :: x % 4 :: x % 2 :: 10 :: rest) (st := (4, 0, (x.toNat : Int), 0, 0, ⟨#[]⟩, 0)) (by decide) rfl]
    rw [decM_step (r := 16 :: x % 4 :: x % 2 :: 10 :: rest) (st := (14, 0, (x.toNat : Int), 0, (x.toNat : Int) % 4 + 1, ⟨#[]⟩, 0)) (by decide) ?_]
    · rw [decM_step (r := 10 :: rest) (st := (16, (x.toNat : Int) % 4, 0, 0, (x.toNat : Int) % 2, ⟨#[]⟩, 0)) (by decide) ?_]
      · rw [decM_step (r := rest) (st := (10, 0, 0, 0, 0, ⟨#[]⟩, 0)) (by decide) rfl]
        simp only [want, List.append_assoc, List.cons_append, List.nil_append]
      · show ((16, ((x % 4).toNat : Int) % 4, 0, 0, ((x % 2).toNat : Int) % 2, (⟨#[]⟩ : ByteArray), 0), (10 :: rest, false)) = _
        rw [mod4, mod2]
        simp
    · show ((14, 0, (x.toNat : Int), 0, ((x % 4).toNat : Int) % 4 + 1, (⟨#[]⟩ : ByteArray), 0), (16 :: x % 4 :: x % 2 :: 10 :: rest, false)) = _
      rw [mod4]
      simp
  · show ((1, ((x % 4).toNat : Int) % 4, 0, ((x % 8).toNat : Int) % 8, (acc.length : Int), (dataM (UInt8.ofNat data.size :: (data.data.toList ++ (chunkB x ++ rest)), false)).1, 0), (dataM (UInt8.ofNat data.size :: (data.data.toList ++ (chunkB x ++ rest)), false)).2) = _
    have hdm : dataM (UInt8.ofNat data.size :: (data.data.toList ++ (chunkB x ++ rest)), false) = (data, (chunkB x ++ rest, false)) := by
      have e : (((UInt8.ofNat data.size).toNat : Int) % 17).toNat = data.data.toList.length := by omega
      unfold dataM one
      simp only [e]
      rw [if_neg (by simp), List.take_left, List.drop_left, ba_data]
    rw [hdm, mod4, mod8, hi]
    simp
theorem wants_dec {odd : UInt8} {data : ByteArray} (hodd : (odd.toNat : Int) < 1 ∨ 17 < (odd.toNat : Int)) (hd : data.size ≤ 16) : ∀ (l : List UInt8) (acc : List St) (i : Nat), acc.length = 5 * i → decM acc (l.flatMap (chunk odd data)) = acc ++ wants data i l
  | [], acc, i, _ => by rw [List.flatMap_nil, decM_nil]; simp [wants]
  | x :: r, acc, i, h => by
    rw [List.flatMap_cons, chunk_dec hodd hd acc _ i h, wants_dec hodd hd r _ (i + 1) (by rw [List.length_append, h]; simp [want]; omega)]
    simp [wants]
theorem wants_len (data : ByteArray) : ∀ (l : List UInt8) (i : Nat), (wants data i l).length = 5 * l.length
  | [], _ => rfl
  | x :: r, i => by simp only [wants, List.length_append, wants_len data r, List.length_cons]; simp [want]; omega
theorem wants_get (data : ByteArray) : ∀ (l : List UInt8) (j i k : Nat) (h : i < l.length), k < 5 → (wants data j l)[5 * i + k]? = (want data (j + i) l[i])[k]?
  | x :: r, j, 0, k, _, hk => by
    rw [wants, List.getElem?_append_left (by simp [want]; omega)]
    simp
  | x :: r, j, i + 1, k, h, hk => by
    rw [wants, List.getElem?_append_right (by simp [want]; omega)]
    have e : 5 * (i + 1) + k - (want data j x).length = 5 * i + k := by simp [want]; omega
    rw [e, wants_get data r (j + 1) i k (by simpa using h) hk]
    simp only [List.getElem_cons_succ]
    rw [show j + 1 + i = j + (i + 1) by omega]
end Go.Proofs.Ytkoakmaihcheaaa

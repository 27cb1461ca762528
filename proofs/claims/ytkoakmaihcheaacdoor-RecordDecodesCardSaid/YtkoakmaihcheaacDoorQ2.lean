/- Contracts of functions of the given program, and plain laws on what they compute: parts of the proofs of laws. -/
import Derived.Test.YtkoakmaihcheaacDoorGLt
import Derived.Test.YtkoakmaihcheaacDoorQ1
import Derived.Test.YtkoakmaihcheaacDoorR5

namespace Go.Proofs.YtkoakmaihcheaacDoor
open Go Go.GL

set_option maxHeartbeats 1000000 in
set_option maxRecDepth 10000 in
theorem qnumber_ro (x : Int) : RO G 57 [.int .i64 x] (fun _ => True) (.string (ba (numB (clampN x)))) := by
  refine RO.enter Tryd.func57 rfl (by decide) rfl Tryd.ntmps57 rfl (fun A hu hA => ?_) (fun _ _ _ h => h)
  repeat (first | refine GO ?_ | refine NW fun _ => ?_)
  have hcl : (if (0 : Int) < (if (1152921504606846975 : Int) < x then (1152921504606846975 : Int) else x) then (if (1152921504606846975 : Int) < x then (1152921504606846975 : Int) else x) else 0) = (clampN x : Int) := by
    unfold clampN widest
    split <;> split <;> omega
  rw [hcl]
  have hc1 := clamp_le x
  unfold widest at hc1
  have h9 := numB_nine x
  generalize clampN x = y0 at *
  refine WC.loop (σ := List UInt8 × Nat) (fun s => s.1 ++ numB s.2 = numB y0 ∧ s.2 ≤ y0)
    (fun s => [(0, .val (.int .i64 s.2)), (3, .val (.string (ba s.1)))])
    (fun _ => [A]) (fun s => s.2) ([], y0) ⟨rfl, Nat.le_refl _⟩ ⟨rfl, rfl, trivial⟩ II ?_
  rintro ⟨l1, y⟩ ⟨hl1, hy⟩
  dsimp only at hl1 hy ⊢
  have hlen1 : l1.length + (numB y).length = (numB y0).length := by rw [← hl1, List.length_append]
  have hsz := ba_size l1
  by_cases hge : 128 ≤ y
  · rw [numB_ge (by omega)] at hl1
    have hb : Value.int .u8 ((y : Int) % 128 + 128) = byteV (UInt8.ofNat (y % 128 + 128)) := by
      unfold byteV; congr 1; rw [UInt8.toNat_ofNat']; omega
    have hd : (y : Int) / 128 = ((y / 128 : Nat) : Int) := by omega
    repeat (first | refine GD ?_ | refine NW fun _ => ?_)
    rw [hb]
    refine WL.step rfl (OP.toStr (sv := ba [UInt8.ofNat (y % 128 + 128)]) rfl rfl rfl rfl rfl rfl rfl rfl (by rw [strCells_ba]; exact Ent.own (T := 5) MM) rfl rfl ?_)
    have hs1 : (ba [UInt8.ofNat (y % 128 + 128)]).size = 1 := rfl
    repeat (first | refine GD ?_ | refine NW fun _ => ?_)
    rw [ba_app, hd]
    exact ⟨(l1 ++ [UInt8.ofNat (y % 128 + 128)], y / 128), ⟨by simp only []; rw [List.append_assoc]; exact hl1, by dsimp only; omega⟩, by dsimp only; omega, ⟨rfl, rfl, trivial⟩, II⟩
  · rw [numB_lt (by omega)] at hl1
    have hb : Value.int .u8 (y : Int) = byteV (UInt8.ofNat y) := by
      unfold byteV; congr 1; rw [UInt8.toNat_ofNat']; omega
    repeat (first | refine GD ?_ | refine NW fun _ => ?_)
    rw [hb]
    refine WL.step rfl (OP.toStr (sv := ba [UInt8.ofNat y]) rfl rfl rfl rfl rfl rfl rfl rfl (by rw [strCells_ba]; exact Ent.own (T := 5) MM) rfl rfl ?_)
    have hs1 : (ba [UInt8.ofNat y]).size = 1 := rfl
    repeat (first | refine GD ?_ | refine NW fun _ => ?_)
    rw [ba_app, hl1]
    exact ret1 rfl ⟨rfl, MM⟩
set_option maxRecDepth 10000 in
theorem qtext_ro (s : ByteArray) (hs : s.size < 1000000) : RO G 58 [.string s] (fun _ => True) (.string (ba (textB s))) := by
  refine RO.enter Tryd.func58 rfl (by decide) rfl Tryd.ntmps58 rfl (fun A hu hA => ?_) (fun _ _ _ h => h)
  repeat (first | refine GO ?_ | refine NW fun _ => ?_)
  refine WL.step rfl (OP.callRO rfl rfl (qnumber_ro s.size) (fun _ _ => trivial) rfl rfl ?_)
  have h9 := numB_nine s.size
  rw [clamp_nat s.size (by unfold widest; omega)] at h9 ⊢
  have hsz := ba_size (numB s.size)
  repeat (first | refine GD ?_ | refine NW fun _ => ?_)
  rw [ba_appD]
  exact ret1 rfl ⟨rfl, MM⟩
set_option maxHeartbeats 4000000 in
set_option maxRecDepth 10000 in
theorem qright_ro (r : Rec) (hsz : r.2.2.2.1.size < 1000000) : RO G 35 [.agg (encR r).toArray] (fun _ => True) (.bool (decide (RightR r))) := by
  refine RO.enter Tryd.func35 rfl (by decide) rfl Tryd.ntmps35 rfl (fun A hu hA => ?_) (fun _ _ _ h => h)
  obtain ⟨seq, kind, block, data, num⟩ := r
  unfold RightR widest
  dsimp only at hsz ⊢
  rw [show encR (seq, kind, block, data, num) = [.int .i64 seq, .int .i64 kind, .int .i64 block, .string data, .int .i64 num] from rfl]
  by_cases hs1 : seq < 1
  · repeat (first | refine GD ?_ | refine NW fun _ => ?_)
    exact ret1 rfl ⟨congrArg Value.bool (decide_eq_false (fun h => by have := h.1; omega)).symm, MM⟩
  by_cases hs2 : 1152921504606846975 < seq
  · repeat (first | refine GD ?_ | refine NW fun _ => ?_)
    exact ret1 rfl ⟨congrArg Value.bool (decide_eq_false (fun h => by have := h.1; omega)).symm, MM⟩
  have hs3 : (1 ≤ seq ∧ seq ≤ 1152921504606846975) := by omega
  by_cases h1 : kind = 1
  · by_cases hb0 : 0 ≤ block
    rotate_left
    · repeat (first | refine GD ?_ | refine NW fun _ => ?_)
      exact ret1 rfl ⟨by first | (simp; omega) | (simp [*]; omega) | simp [*], MM⟩
    by_cases hb8 : block ≤ 7
    rotate_left
    · repeat (first | refine GD ?_ | refine NW fun _ => ?_)
      exact ret1 rfl ⟨by first | (simp; omega) | (simp [*]; omega) | simp [*], MM⟩
    have hb8' : block < 8 := by omega
    by_cases hs16 : data.size ≤ 16
    rotate_left
    · repeat (first | refine GD ?_ | refine NW fun _ => ?_)
      exact ret1 rfl ⟨by first | (simp; omega) | (simp [*]; omega) | simp [*], MM⟩
    by_cases hn0 : num = 0
    · repeat (first | refine GD ?_ | refine NW fun _ => ?_)
      exact ret1 rfl ⟨by first | (simp; omega) | (simp [*]; omega) | simp [*], MM⟩
    · repeat (first | refine GD ?_ | refine NW fun _ => ?_)
      exact ret1 rfl ⟨by first | (simp; omega) | (simp [*]; omega) | simp [*], MM⟩
  · by_cases h2 : kind = 2
    rotate_left
    · repeat (first | refine GD ?_ | refine NW fun _ => ?_)
      exact ret1 rfl ⟨by first | (simp; omega) | (simp [*]; omega) | simp [*], MM⟩
    by_cases hb : block = 0
    rotate_left
    · repeat (first | refine GD ?_ | refine NW fun _ => ?_)
      exact ret1 rfl ⟨by first | (simp; omega) | (simp [*]; omega) | simp [*], MM⟩
    by_cases hd : data = ⟨#[]⟩
    rotate_left
    · repeat (first | refine GD ?_ | refine NW fun _ => ?_)
      exact ret1 rfl ⟨by first | (simp; omega) | (simp [*]; omega) | simp [*], MM⟩
    by_cases hn1 : 1 ≤ num
    rotate_left
    · repeat (first | refine GD ?_ | refine NW fun _ => ?_)
      exact ret1 rfl ⟨by first | (simp; omega) | (simp [*]; omega) | simp [*], MM⟩
    by_cases hn2 : num ≤ 1152921504606846975
    · repeat (first | refine GD ?_ | refine NW fun _ => ?_)
      exact ret1 rfl ⟨by first | (simp; omega) | (simp [*]; omega) | simp [*], MM⟩
    · repeat (first | refine GD ?_ | refine NW fun _ => ?_)
      exact ret1 rfl ⟨by first | (simp; omega) | (simp [*]; omega) | simp [*], MM⟩
theorem encR_eq (seq kind block num : Int) (data : ByteArray) : encR (seq, kind, block, data, num) = [.int .i64 seq, .int .i64 kind, .int .i64 block, .string data, .int .i64 num] := rfl
set_option maxHeartbeats 4000000 in
set_option maxRecDepth 10000 in
theorem qbytes_ro (gen : Int) (r : Rec) (hr : RightR r) : RO G 36 [.int .i64 gen, .agg (encR r).toArray] (fun _ => True) (.string (ba (sectorM (bodyM gen r)))) := by
  refine RO.enter Tryd.func36 rfl (by decide) rfl Tryd.ntmps36 rfl (fun A hu hA => ?_) (fun _ _ _ h => h)
  have hbl := bodyM_len (gen := gen) hr
  obtain ⟨seq, kind, block, data, num⟩ := r
  rw [encR_eq]
  have hg9 := numB_nine gen
  have hs9 := numB_nine seq
  have hk9 := numB_nine kind
  have hgz := ba_size (numB (clampN gen))
  have hsz := ba_size (numB (clampN seq))
  have hkz := ba_size (numB (clampN kind))
  repeat (first | refine GO ?_ | refine NW fun _ => ?_)
  rename_i q
  refine RD 10 11 (_) ?_
  refine WW 0 ?_
  refine WW 2 ?_; refine WW 3 ?_
  refine WW 6 ?_; refine WW 7 ?_
  refine WH.only 1 rfl rfl (by kernel_rfl) rfl (OP.callRO rfl rfl (qnumber_ro gen) (fun _ _ => trivial) rfl rfl ⟨fun _ => II, ?_⟩)
  refine WH.only 4 rfl rfl (by kernel_rfl) rfl (OP.callRO rfl rfl (qnumber_ro seq) (fun _ _ => trivial) rfl rfl ⟨fun _ => II, ?_⟩)
  refine WW 5 ?_
  rw [ba_app]
  generalize hp1 : numB (clampN gen) ++ numB (clampN seq) = p1
  have hp1l : p1.length ≤ 18 := by rw [← hp1, List.length_append]; omega
  have hp1z := ba_size p1
  refine WH.only 8 rfl rfl (by kernel_rfl) rfl (OP.callRO rfl rfl (qnumber_ro kind) (fun _ _ => trivial) rfl rfl ⟨fun _ => II, ?_⟩)
  refine WW 9 ?_
  rw [ba_app]
  refine WW 10 ?_
  refine DN ?_
  generalize hp2 : p1 ++ numB (clampN kind) = p2
  have hp2l : p2.length ≤ 27 := by rw [← hp2, List.length_append]; omega
  have hp2z := ba_size p2
  by_cases h1 : kind = 1
  · have hb : data.size ≤ 16 := by
      have h2 := hr.2
      dsimp only at h2
      rcases h2 with h2 | h2
      · omega
      · exact h2.2.2.1
    have hb9 := numB_nine block
    have hbz := ba_size (numB (clampN block))
    have htz := ba_size (textB data)
    have htl : (textB data).length ≤ 26 := by
      have := numB_nine data.size
      rw [clamp_nat data.size (by unfold widest; omega)] at this
      have h7 : data.data.toList.length = data.size := Array.length_toList
      unfold textB
      rw [List.length_append]
      omega
    repeat (first | refine GD ?_ | refine NW fun _ => ?_)
    refine RD 9 10 (_) ?_
    refine WW 0 ?_; refine WW 1 ?_; refine WW 2 ?_
    refine WW 5 ?_; refine WW 6 ?_
    refine WH.only 3 rfl rfl (by kernel_rfl) rfl (OP.callRO rfl rfl (qnumber_ro block) (fun _ _ => trivial) rfl rfl ⟨fun _ => II, ?_⟩)
    refine WW 4 ?_
    rw [ba_app]
    generalize hp3 : p2 ++ numB (clampN block) = p3
    have hp3l : p3.length ≤ 36 := by rw [← hp3, List.length_append]; omega
    have hp3z := ba_size p3
    refine WH.only 7 rfl rfl (by kernel_rfl) rfl (OP.callRO rfl rfl (qtext_ro data (by omega)) (fun _ _ => trivial) rfl rfl ⟨fun _ => II, ?_⟩)
    refine WW 8 ?_
    rw [ba_app]
    refine WW 9 ?_
    refine DN ?_
    have hbody : p3 ++ textB data = bodyM gen (seq, kind, block, data, num) := by
      unfold bodyM
      dsimp only
      rw [if_pos h1, ← hp3, ← hp2, ← hp1]
      simp only [List.append_assoc]
    rw [hbody]
    repeat (first | refine GD ?_ | refine NW fun _ => ?_)
    refine WL.step rfl (OP.callRO rfl rfl (qsector_ro _ hbl) (fun _ _ => trivial) rfl rfl ?_)
    repeat (first | refine GD ?_ | refine NW fun _ => ?_)
    exact ret1 rfl ⟨rfl, MM⟩
  · have hn9 := numB_nine num
    have hnz := ba_size (numB (clampN num))
    repeat (first | refine GD ?_ | refine NW fun _ => ?_)
    refine WL.step rfl (OP.callRO rfl rfl (qnumber_ro num) (fun _ _ => trivial) rfl rfl ?_)
    repeat (first | refine GD ?_ | refine NW fun _ => ?_)
    rw [ba_app]
    have hbody : p2 ++ numB (clampN num) = bodyM gen (seq, kind, block, data, num) := by
      unfold bodyM
      dsimp only
      rw [if_neg h1, ← hp2, ← hp1]
    rw [hbody]
    refine WL.step rfl (OP.callRO rfl rfl (qsector_ro _ hbl) (fun _ _ => trivial) rfl rfl ?_)
    repeat (first | refine GD ?_ | refine NW fun _ => ?_)
    exact ret1 rfl ⟨rfl, MM⟩
end Go.Proofs.YtkoakmaihcheaacDoor

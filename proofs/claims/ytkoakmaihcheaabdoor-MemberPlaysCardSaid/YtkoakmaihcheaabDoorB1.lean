/- Contracts of functions of the given program, and plain laws on what they compute: parts of the proofs of laws. -/
import Derived.Test.YtkoakmaihcheaabDoorGLt
import Derived.Test.YtkoakmaihcheaabDoorR2
import Derived.Test.YtkoakmaihcheaabDoorM5

namespace Go.Proofs.YtkoakmaihcheaabDoor
open Go Go.GL

def addF (z : Int) (l : List Int) : Int := l.foldl (fun z v => z + 2 ^ v.toNat) z
/-- the first volumes as a number -/
def bitsM (f : List Bool) : Int := addF 0 (listM f)
def chB (c : Ch) : List UInt8 := numB (clampN c.1) ++ numB (clampN (2 * c.2.1 + (if c.2.2 = true then 1 else 0)))
/-- a group as bytes -/
def bytesM (f : List Bool) (ch : List Ch) : List UInt8 := numB (clampN (bitsM f)) ++ numB (clampN ch.length) ++ ch.flatMap chB
theorem chB_len (c : Ch) : (chB c).length ≤ 18 := by
  have h1 := numB_nine c.1
  have h2 := numB_nine (2 * c.2.1 + (if c.2.2 = true then 1 else 0))
  unfold chB
  rw [List.length_append]
  omega
theorem chB_snoc (ch : List Ch) (k : Nat) (h : k < ch.length) : (ch.take (k + 1)).flatMap chB = (ch.take k).flatMap chB ++ chB ch[k] := by
  rw [List.take_succ_eq_append_getElem h, List.flatMap_append]
  simp
theorem chBs_len (ch : List Ch) : (ch.flatMap chB).length ≤ 18 * ch.length := by
  induction ch with
  | nil => simp
  | cons c r ih =>
    have := chB_len c
    rw [List.flatMap_cons, List.length_append, List.length_cons]
    omega
theorem listM_mem {f : List Bool} {v : Int} (h : v ∈ listM f) : 0 ≤ v ∧ v < f.length := by
  unfold listM at h
  obtain ⟨a, ha, rfl⟩ := List.mem_map.1 h
  have := List.mem_range.1 (List.mem_filter.1 ha).1
  exact ⟨Int.natCast_nonneg _, by show (a : Int) < _; omega⟩
theorem listM_len4 (f : List Bool) : (listM f).length ≤ f.length := by
  unfold listM
  rw [List.length_map]
  exact Nat.le_trans (List.length_filter_le _ _) (by simp)
theorem shl1 {z v : Int} (hv : 0 ≤ v ∧ v < 4) (hz : 0 ≤ z ∧ z ≤ 100) : IntKind.i64.wrap (z + shlV .i64 1 v) = z + 2 ^ v.toNat := by
  obtain rfl | rfl | rfl | rfl : v = 0 ∨ v = 1 ∨ v = 2 ∨ v = 3 := by omega
  · exact wrap_fit (k := .i64) (n := z + 1) (by unfold Fit; omega)
  · exact wrap_fit (k := .i64) (n := z + 2) (by unfold Fit; omega)
  · exact wrap_fit (k := .i64) (n := z + 4) (by unfold Fit; omega)
  · exact wrap_fit (k := .i64) (n := z + 8) (by unfold Fit; omega)
theorem addF_snoc (z : Int) (l : List Int) (v : Int) : addF z (l ++ [v]) = addF z l + 2 ^ v.toNat := by simp [addF]
theorem pow_bd {v : Int} (hv : 0 ≤ v ∧ v < 4) : (0 : Int) ≤ 2 ^ v.toNat ∧ (2 : Int) ^ v.toNat ≤ 8 := by
  obtain rfl | rfl | rfl | rfl : v = 0 ∨ v = 1 ∨ v = 2 ∨ v = 3 := by omega
  all_goals decide

set_option maxHeartbeats 2000000 in
set_option maxRecDepth 10000 in
theorem gbytes_ok (p : Nat) (a : Option Addr) (cap : Nat) (f : List Bool) (ch : List Ch) (hf : f.length = 4) (hv : Vols ch) (hs : ch.length ≤ 100) :
    RT G 14 [.pointer (some ⟨p, 0, none⟩)] (grpR p a cap f ch) (BytesNew (bytesM f ch)) := by
  refine RT.enter Tryd.func14 rfl (by decide) rfl Tryd.ntmps14 rfl (fun A hu hA => ?_)
  have hE1 : ∀ {L}, A ∈ L → Ent L (cellsAt p 0 (bools f ++ [.slice a ch.length cap])) := fun m => Ent.mem m hu fun k x => (hA k x).1
  have hE2 : ∀ {L}, A ∈ L → Ent L (readS a ch.length 3 (encL ch)) := fun m => Ent.mem m hu fun k x => (hA k x).2
  have hg : (bools f ++ [Value.slice a ch.length cap])[4]? = some (.slice a ch.length cap) := by
    obtain ⟨f0, f1, f2, f3, rfl⟩ := four hf; rfl
  repeat (first | refine GO ?_ | refine NW fun _ => ?_)
  refine WL.step rfl (OP.loadA (l := bools f) rfl rfl rfl rfl (Ent.sub (i := 0) (hE1 MM) (by obtain ⟨f0, f1, f2, f3, rfl⟩ := four hf; rfl)) (by show (f.map Value.bool).length = 4; rw [List.length_map, hf]) rfl rfl ?_)
  refine WL.step rfl (OP.callRT rfl rfl (list_ok f hf) (fun _ _ => trivial) rfl rfl ?_)
  rintro v E ⟨a0, c0, rfl, rfl⟩
  have hl4 := listM_len4 f
  rw [hf] at hl4
  have hmem : ∀ v ∈ listM f, 0 ≤ v ∧ v < 4 := fun v h => by have := listM_mem h; rw [hf] at this; exact this
  have hbits : bitsM f = addF 0 (listM f) := rfl
  unfold bytesM
  rw [hbits]
  generalize listM f = l0 at *
  repeat (first | refine GO ?_ | refine NW fun _ => ?_)
  refine WC.loop (σ := Nat) (fun k => k ≤ l0.length ∧ 0 ≤ addF 0 (l0.take k) ∧ addF 0 (l0.take k) ≤ 8 * k)
    (fun k => [(0, .val (.pointer (some ⟨p, 0, none⟩))), (3, .val (.int .i64 (addF 0 (l0.take k)))), (16, .val (.slice a0 l0.length c0)), (17, .val (.int .i64 l0.length)), (18, .val (.int .i64 k))])
    (fun k => [ownS a0 l0.length c0 3 1 (l0.map vI), A]) (fun k => l0.length - k) 0 ⟨Nat.zero_le _, by simp [addF], by simp [addF]⟩ ⟨rfl, rfl, rfl, rfl, rfl, trivial⟩ (Imp.refl _) ?_
  rintro k ⟨hk, hz0, hz1⟩
  by_cases hlt : k < l0.length
  · repeat (first | refine GD ?_ | refine NW fun _ => ?_)
    refine WL.fact (Ent.some (Ent.own (a := a0) (n := l0.length) (cap := c0) (T := 3) (size := 1) (cs := l0.map vI) MM) (by omega)) ?_
    rintro ⟨b, off, rfl⟩
    repeat (first | refine GD ?_ | refine NW fun _ => ?_)
    refine WL.step rfl (OP.load1 (v := .int .i64 l0[k]) rfl rfl rfl rfl (Ent.elem (i := k * 1) (Ent.own (T := 3) MM) rfl (by simp [vI, hlt])) rfl rfl ?_)
    have hv4 := hmem _ (List.getElem_mem hlt)
    have hsn := addF_snoc 0 (l0.take k) l0[k]
    rw [← List.take_succ_eq_append_getElem hlt] at hsn
    have hpb := pow_bd hv4
    have hsh := shl1 hv4 (z := addF 0 (l0.take k)) (by omega)
    generalize l0[k] = v at *
    obtain ⟨hv40, hv41⟩ := hv4
    repeat (first | refine GD ?_ | refine NW fun _ => ?_)
    rw [hsh]
    exact ⟨k + 1, ⟨by omega, by omega, by omega⟩, by omega, ⟨rfl, by rw [hsn]; rfl, rfl, rfl, rfl, trivial⟩, Imp.refl _⟩
  have hkl : k = l0.length := by omega
  subst hkl
  rw [List.take_length] at hz0 hz1 ⊢
  generalize addF 0 l0 = z at *
  repeat (first | refine GD ?_ | refine NW fun _ => ?_)
  have hz9 := numB_nine z
  have hn9 := numB_nine ch.length
  refine WC.imp (Imp.nilS 5 1) ?_
  refine RD 7 9 ([A]) ?_
  refine WW 0 ?_
  refine WW 2 ?_; refine WW 3 ?_; refine WW 4 ?_
  refine VL 5 (.slice a ch.length cap) rfl rfl rfl rfl (.inl ⟨rfl, Ent.one (i := 4) (hE1 MM) hg⟩) ?_
  refine WW 6 ?_
  refine WH.only 1 rfl rfl (by kernel_rfl) rfl (OP.call (pre := [ownS none 0 0 5 1 (([] : List UInt8).map byteV)]) rfl rfl (number_ok none 0 0 [] z (by omega)) PS rfl rfl (fun v M hM => ?_))
  obtain ⟨a1, cap1, rfl, rfl⟩ := hM
  refine ⟨fun _ => II, ?_⟩
  refine WH.only 7 rfl rfl (by kernel_rfl) rfl (OP.call (pre := [ownS a1 _ cap1 5 1 _]) rfl rfl (number_ok a1 _ cap1 _ ch.length (by omega)) PS rfl rfl (fun v M hM => ?_))
  obtain ⟨a2, cap2, rfl, rfl⟩ := hM
  refine ⟨(fun h => nomatch h), ?_⟩
  refine WW 8 ?_
  refine DN ?_
  rw [List.nil_append]
  generalize hpre : numB (clampN z) ++ numB (clampN ch.length) = pre
  have hpl : 0 + (numB (clampN z)).length + (numB (clampN ch.length)).length = pre.length := by rw [← hpre, List.length_append, Nat.zero_add]
  rw [hpl]
  repeat (first | refine GO ?_ | refine NW fun _ => ?_)
  refine WL.step rfl (OP.load1 (v := .slice a ch.length cap) rfl rfl rfl rfl (Ent.one (i := 4) (hE1 MM) hg) rfl rfl ?_)
  repeat (first | refine GO ?_ | refine NW fun _ => ?_)
  refine WC.loop (σ := Nat × Option Addr × Nat × List UInt8) (fun s => s.1 ≤ ch.length ∧ s.2.2.2 = pre ++ (ch.take s.1).flatMap chB)
    (fun s => [(6, .val (.slice s.2.1 s.2.2.2.length s.2.2.1)), (38, .val (.slice a ch.length cap)), (39, .val (.int .i64 ch.length)), (40, .val (.int .i64 s.1))])
    (fun s => [ownS s.2.1 s.2.2.2.length s.2.2.1 5 1 (s.2.2.2.map byteV), A]) (fun s => ch.length - s.1) (0, a2, cap2, pre) ⟨Nat.zero_le _, by simp⟩ ⟨rfl, rfl, rfl, rfl, trivial⟩ II ?_
  rintro ⟨k, a3, cap3, l3⟩ ⟨hk, hl3⟩
  dsimp only at hk hl3 ⊢
  by_cases hlt : k < ch.length
  rotate_left
  · rw [List.take_of_length_le (by omega)] at hl3
    repeat (first | refine GD ?_ | refine NW fun _ => ?_)
    exact ret1 rfl ⟨[_], ⟨a3, cap3, by rw [← hl3], by rw [← hl3]⟩, II⟩
  have hsn := chB_snoc ch k hlt
  have hbl := chBs_len (ch.take k)
  rw [List.length_take] at hbl
  have hll : l3.length ≤ 2000 := by rw [hl3, List.length_append]; omega
  obtain ⟨v0, v1⟩ := hv ch[k] (List.getElem_mem _)
  repeat (first | refine GD ?_ | refine NW fun _ => ?_)
  refine WL.fact (Ent.some (hE2 MM) (by omega)) ?_
  rintro ⟨b, off, rfl⟩
  repeat (first | refine GD ?_ | refine NW fun _ => ?_)
  refine WL.step rfl (OP.loadA (l := encC ch[k]) rfl rfl rfl rfl (Ent.elems (hE2 MM) rfl (encL_at _ _ hlt)) rfl rfl rfl ?_)
  generalize ch[k] = c at *
  obtain ⟨cm, cv, cg⟩ := c
  dsimp only at v0 v1
  have hm9 := numB_nine cm
  have hx9 := numB_nine (2 * cv + (if cg = true then 1 else 0))
  have e3 : l3 ++ numB (clampN cm) ++ numB (clampN (2 * cv + (if cg = true then 1 else 0))) = pre ++ (ch.take (k + 1)).flatMap chB := by
    rw [hsn, hl3]; unfold chB; simp only [List.append_assoc]
  cases cg
  · repeat (first | refine GD ?_ | refine NW fun _ => ?_)
    refine WL.step rfl (OP.call (pre := [ownS a3 _ cap3 5 1 _]) rfl rfl (number_ok a3 _ cap3 l3 cm (by omega)) PS rfl rfl ?_)
    rintro _ _ ⟨a4, cap4, rfl, rfl⟩
    repeat (first | refine GD ?_ | refine NW fun _ => ?_)
    refine WL.step rfl (OP.call (pre := [ownS a4 _ cap4 5 1 _]) rfl rfl (number_ok a4 _ cap4 _ (2 * cv) (by omega)) PS rfl rfl ?_)
    rintro _ _ ⟨a5, cap5, rfl, rfl⟩
    repeat (first | refine GD ?_ | refine NW fun _ => ?_)
    have e4 : l3 ++ numB (clampN cm) ++ numB (clampN (2 * cv)) = pre ++ (ch.take (k + 1)).flatMap chB := by
      rw [← e3, if_neg (by decide), Int.add_zero]
    rw [e4]
    have e5 : l3.length + (numB (clampN cm)).length + (numB (clampN (2 * cv))).length = (pre ++ (ch.take (k + 1)).flatMap chB).length := by
      rw [← e4]; simp only [List.length_append]
    rw [e5]
    exact ⟨(k + 1, a5, cap5, _), ⟨by dsimp only; omega, rfl⟩, by dsimp only; omega, ⟨rfl, rfl, rfl, rfl, trivial⟩, II⟩
  · repeat (first | refine GD ?_ | refine NW fun _ => ?_)
    refine WL.step rfl (OP.call (pre := [ownS a3 _ cap3 5 1 _]) rfl rfl (number_ok a3 _ cap3 l3 cm (by omega)) PS rfl rfl ?_)
    rintro _ _ ⟨a4, cap4, rfl, rfl⟩
    repeat (first | refine GD ?_ | refine NW fun _ => ?_)
    refine WL.step rfl (OP.call (pre := [ownS a4 _ cap4 5 1 _]) rfl rfl (number_ok a4 _ cap4 _ (2 * cv + 1) (by omega)) PS rfl rfl ?_)
    rintro _ _ ⟨a5, cap5, rfl, rfl⟩
    repeat (first | refine GD ?_ | refine NW fun _ => ?_)
    have e4 : l3 ++ numB (clampN cm) ++ numB (clampN (2 * cv + 1)) = pre ++ (ch.take (k + 1)).flatMap chB := by
      rw [← e3, if_pos rfl]
    rw [e4]
    have e5 : l3.length + (numB (clampN cm)).length + (numB (clampN (2 * cv + 1))).length = (pre ++ (ch.take (k + 1)).flatMap chB).length := by
      rw [← e4]; simp only [List.length_append]
    rw [e5]
    exact ⟨(k + 1, a5, cap5, _), ⟨by dsimp only; omega, rfl⟩, by dsimp only; omega, ⟨rfl, rfl, rfl, rfl, trivial⟩, II⟩
end Go.Proofs.YtkoakmaihcheaabDoor

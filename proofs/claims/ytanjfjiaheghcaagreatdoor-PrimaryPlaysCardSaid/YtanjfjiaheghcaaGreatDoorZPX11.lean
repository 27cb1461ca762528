/- Contracts of functions of the given program, and plain laws: parts of the proofs of laws. -/
import Derived.Test.YtanjfjiaheghcaaGreatDoorZPX3
import Derived.Test.YtanjfjiaheghcaaGreatDoorZPX10
import Derived.Test.YtanjfjiaheghcaaGreatDoorZPX9
import Derived.Test.YtanjfjiaheghcaaGreatDoorZPX8
import Derived.Test.YtanjfjiaheghcaaGreatDoorZPX6
import Derived.Test.YtanjfjiaheghcaaGreatDoorZPX5
/- Contracts of functions of the given program, and plain laws on what they compute: parts of the proofs of laws. -/

namespace Go.Proofs.YtanjfjiaheghcaaGreatDoor
open Go Go.GL

/-! a primary: Ship, and its beginning -/
theorem gnew_rt : RT G 89 [] (fun _ => True) (fun v E => ∃ g, v = .pointer (some ⟨g, 0, none⟩) ∧ E = [gateA g gt0]) := by
  refine RT.enter Tryz.func89 rfl (by decide) rfl Tryz.ntmps89 rfl (fun A hu hA => ?_)
  repeat (first | refine GO ?_ | refine NW fun _ => ?_)
  refine ret1 rfl ⟨[gateA _ gt0], ⟨_, rfl, rfl⟩, ?_⟩
  refine Imp.trans (Imp.nilS caT 3) (Imp.trans ?_ (gateFold _ gt0 (none, 0)))
  exact II
theorem ship_seq {J : Jrn} (hs : ∀ i (h : i < J.held.length), (J.held[i]).2.1 = J.hd.first + (i : Nat)) {acked : Int} (ha : acked = J.hd.first - 1) {k : Nat} (h : k < J.held.length) : acked < (J.held[k]).2.1 := by
  rw [hs k h]; omega
set_option maxHeartbeats 8000000 in
set_option maxRecDepth 10000 in
theorem pship_rt (p q : Nat) (P : Pri) (B : Int) (I : PInv P B) (hB : B + 4 ≤ widest) : RT G 29 [.pointer (some ⟨p, 0, none⟩)] (priA p q P) (fun v E => ∃ a cap, v = .slice a (shipP P).length cap ∧ E = [ownS a (shipP P).length cap 140 5 ((shipP P).flatMap encR)]) := by
  refine RT.enterEx Tryz.func29 rfl (by decide) rfl Tryz.ntmps29 rfl (fun x A hu hA => ?_)
  obtain ⟨v, g, s⟩ := x
  have hB' : ∀ {L}, A ∈ L → Ent L (blk p (pndC q P.V.J.ring (.pointer (some ⟨v, 0, none⟩)) (.pointer (some ⟨g, 0, none⟩)) (.pointer (some ⟨s, 0, none⟩)) P.marked P.floor P.acked) pnT) := fun m => Ent.of hu hA m (Ent.at (up_blk _ _ _) (List.Mem.head _))
  have hC : ∀ {L} {i : Nat} {y : Value}, A ∈ L → (pndC q P.V.J.ring (.pointer (some ⟨v, 0, none⟩)) (.pointer (some ⟨g, 0, none⟩)) (.pointer (some ⟨s, 0, none⟩)) P.marked P.floor P.acked)[i]? = some y → Ent L (cellAt p i y) := fun m h => Ent.of hu hA m (Ent.blk (T := pnT) (List.Mem.head _) h)
  have hVo : ∀ {L}, A ∈ L → Ent L (vol v q P.V) := fun m => Ent.of hu hA m (Ent.at (up_vol _ _ _) (List.Mem.tail _ (List.Mem.head _)))
  have hdn := pdown_ro p q P.V.J.ring v (.pointer (some ⟨g, 0, none⟩)) (.pointer (some ⟨s, 0, none⟩)) P.marked P.floor P.acked
  have hrec := vrecords_rt v q P.V (I.rng (by omega))
  have hsh : shipP P = (P.V.J.held.map Prod.snd).take 4 := rfl
  have hack := I.ack
  have hseq := fun k h => ship_seq I.V.j.seq hack (k := k) h
  have hlen := I.V.j.len
  have hrg := I.V.j.ring
  repeat (first | refine GD ?_ | refine NW fun _ => ?_)
  refine WL.step rfl (OP.callRO rfl rfl hdn (hB' MM) rfl rfl ?_)
  repeat (first | refine GD ?_ | refine NW fun _ => ?_)
  refine WL.step rfl (OP.load1 (v := .pointer (some ⟨v, 0, none⟩)) rfl rfl rfl rfl (hC (i := 2) MM rfl) rfl rfl ?_)
  repeat (first | refine GD ?_ | refine NW fun _ => ?_)
  refine WL.step rfl (OP.callRT rfl rfl hrec (hVo MM) rfl rfl ?_)
  rintro _ _ ⟨ah, ch, rfl, rfl⟩
  generalize hK : P.V.J.held = held at *
  repeat (first | refine GD ?_ | refine NW fun _ => ?_)
  refine WC.imp (Imp.nilS 140 5) ?_
  refine WC.loop (σ := Nat × Option Addr × Nat) (fun s => s.1 ≤ held.length)
    (fun s => [(0, .val (.pointer (some ⟨p, 0, none⟩))), (3, .val (.slice s.2.1 (min s.1 4) s.2.2)), (12, .val (.slice ah held.length ch)), (13, .val (.int .i64 held.length)), (14, .val (.int .i64 s.1))])
    (fun s => [ownS s.2.1 (min s.1 4) s.2.2 140 5 ((((held.map Prod.snd).take s.1).take 4).flatMap encR), ownS ah held.length ch 140 5 (held.flatMap (fun x => encR x.2)), A]) (fun s => held.length - s.1)
    (0, none, 0) (Nat.zero_le _) ⟨rfl, rfl, rfl, rfl, rfl, trivial⟩ II ?_
  rintro ⟨k, ar, cr⟩ hk
  dsimp only at hk ⊢
  by_cases hlt : k < held.length
  rotate_left
  · have he : k = held.length := by omega
    subst he
    rw [List.take_of_length_le (show (held.map Prod.snd).length ≤ held.length by rw [List.length_map]; exact Nat.le_refl _), ← hsh]
    have hl : (shipP P).length = min held.length 4 := by rw [hsh, List.length_take, List.length_map, Nat.min_comm]
    repeat (first | refine GD ?_ | refine NW fun _ => ?_)
    refine ret1 rfl ⟨_, ⟨ar, cr, by rw [hl], rfl⟩, ?_⟩
    rw [hl]
    exact II
  have hsq := hseq k hlt
  refine WC.fact (Ent.some (Ent.own (a := ah) (n := held.length) (cap := ch) (T := 140) (size := 5) (cs := held.flatMap (fun x => encR x.2)) MM) (by omega)) ?_
  rintro ⟨b, off, rfl⟩
  have hkl : k < (held.map Prod.snd).length := by rw [List.length_map]; exact hlt
  have hsn : (held.map Prod.snd).take (k + 1) = (held.map Prod.snd).take k ++ [held[k].2] := by
    rw [← List.take_append_getElem hkl, List.getElem_map]
  have htl : ((held.map Prod.snd).take k).length = k := by rw [List.length_take]; omega
  generalize ht1 : (held.map Prod.snd).take (k + 1) = tk1 at *
  generalize (held.map Prod.snd).take k = tk at *
  repeat (first | refine GD ?_ | refine NW fun _ => ?_)
  refine WL.step rfl (OP.loadA (l := encR held[k].2) rfl rfl rfl rfl (Ent.elA (f := fun x : Held => encR x.2) (fun _ => rfl) (Ent.own (T := 140) MM) hlt) rfl rfl rfl ?_)
  generalize held[k].2 = r at *
  obtain ⟨seq, kind, block, data, num⟩ := r
  dsimp only at hsq
  rw [show encR (seq, kind, block, data, num) = [.int .i64 seq, .int .i64 kind, .int .i64 block, .string data, .int .i64 num] from rfl]
  repeat (first | refine GD ?_ | refine NW fun _ => ?_)
  rename_i rb
  by_cases h4 : k < 4
  · have hmin : min k 4 = k := by omega
    have hmin1 : min (k + 1) 4 = k + 1 := by omega
    rw [hmin]
    rw [List.take_of_length_le (show tk.length ≤ 4 by omega)]
    refine RD 12 12 (_) ?_
    refine WP 0 ?_
    refine VV 1 ?_
    refine WP 2 ?_
    refine WP 3 ?_
    refine WP 4 ?_
    refine VL 5 (.int .i64 P.acked) rfl rfl rfl rfl (.inl ⟨rfl, hC (i := 7) MM rfl⟩) ?_
    refine VQ 6 rfl (Quiet.bool (Quiet.pure (c := none) (nw := false) rfl trivial) (decide_eq_true hsq)) ?_
    refine WP 7 ?_
    refine WP 8 ?_
    refine WP 9 ?_
    refine WP 10 ?_
    refine WP 11 ?_
    refine DN ?_
    rw [decide_eq_true (show (k : Int) < 4 by omega)]
    repeat (first | refine GD ?_ | refine NW fun _ => ?_)
    refine WL.step rfl (OP.append (ds := [.int .i64 seq, .int .i64 kind, .int .i64 block, .string data, .int .i64 num]) rfl rfl rfl rfl rfl rfl rfl rfl rfl (show Imp _ (ownS ar k cr 140 5 (tk.flatMap encR) :: _) from P1) (Ent.own (T := 140) MM) rfl (by omega) (by omega) rfl rfl (fun a' cap' => ?_))
    repeat (first | refine GD ?_ | refine NW fun _ => ?_)
    refine ⟨(k + 1, a', cap'), hlt, by dsimp only; omega, ⟨rfl, (by dsimp only; rw [hmin1]; rfl), rfl, rfl, rfl, trivial⟩, ?_⟩
    dsimp only
    rw [ht1, hsn, List.take_of_length_le (show (tk ++ [(seq, kind, block, data, num)]).length ≤ 4 by rw [List.length_append, List.length_singleton]; omega), hmin1]
    rw [List.flatMap_append, List.flatMap_cons, List.flatMap_nil, List.append_nil]
    exact II
  · have hmin : min k 4 = 4 := by omega
    have hmin1 : min (k + 1) 4 = 4 := by omega
    rw [hmin]
    refine RD 12 12 (_) ?_
    refine WP 0 ?_
    refine VV 1 ?_
    refine WP 2 ?_
    refine WP 3 ?_
    refine WP 4 ?_
    refine VL 5 (.int .i64 P.acked) rfl rfl rfl rfl (.inl ⟨rfl, hC (i := 7) MM rfl⟩) ?_
    refine VQ 6 rfl (Quiet.bool (Quiet.pure (c := none) (nw := false) rfl trivial) (decide_eq_true hsq)) ?_
    refine WP 7 ?_
    refine WP 8 ?_
    refine WP 9 ?_
    refine WP 10 ?_
    refine WP 11 ?_
    refine DN ?_
    repeat (first | refine GD ?_ | refine NW fun _ => ?_)
    refine ⟨(k + 1, ar, cr), hlt, by dsimp only; omega, ⟨rfl, (by dsimp only; rw [hmin1]; rfl), rfl, rfl, rfl, trivial⟩, ?_⟩
    dsimp only
    rw [ht1, hsn, hmin1, List.take_append_of_le_length (by omega)]
    exact II
end Go.Proofs.YtanjfjiaheghcaaGreatDoor
namespace Go.GL
open Go Go.MapKept
section
variable {G : Ctx} {N : Nat} {env : Env} {L S : List Assn} {o o' : Oper} {k : Kont} {n : Nat} {fuel : Nat} {listed : Array Bool} {hd : Bool} {l : List Oper}
/-- a value that is built, some of its parts not told -/
theorem Quiet.build {t : TypeId} {ps : List (Nat × Operand)} {v : Value} (ho : o.op = .build t ps.toArray) (hv : evBuild G.T env t ps = some v) : Quiet G N env S o v := ⟨fun a w ha _ => by
  rw [execOp, ho]
  refine val_run ?_
  unfold evBuild at hv
  split at hv
  · rename_i fs sz by_ z cm ht
    have e := Tab.find_ok G.ok ht
    split at hv
    · rename_i pl pv hpl hpv
      split at hv
      · rename_i c hfit hfill
        cases hv
        have hpv' := rdParts_ok ha hpv
        have hp := run_places (P := G.P) G.ok w hpl
        have hf := fill_eq (place' := nthP pl) (fun _ _ h => h) (fun i off size ei => allFit_ok hfit i off size (by rw [← nthP_eq]; exact ei)) hfill
        have hun : G.P.underlying t = some (.struct fs) := e.desc
        have hz : (zeroOf ⟨.struct fs, sz, by_, z, true, cm⟩).cells = z.toArray := zero_agg rfl
        have hmap : (fs.mapM (fun f => do Pure.pure (f.offset, ← sizeOf f.type) : Field → Sem (Nat × Nat))).run G.P w = .ok pl.toArray w := by
          obtain ⟨fl⟩ := fs
          rw [List.mapM_toArray]
          simp only [Sem.run_map]
          rw [hp]; rfl
        have hplace : (fun i => pl.toArray[i]?) = nthP pl := by funext i; rw [nthP_eq]; simp
        simp only [Instr.build, Sem.run_bind, run_zero e, Result.andThen_ok, run_underlying hun, hz, hmap, List.map_toArray, hpv', hplace, hf, Sem.run_pure]
      · cases hv
    · cases hv
  · rename_i n el sz by_ z cm ht
    have e := Tab.find_ok G.ok ht
    split at hv
    · rename_i ti pv hti hpv
      split at hv
      · rename_i c hb hfill
        cases hv
        have hpv' := rdParts_ok ha hpv
        have hlen := Nat.eq_of_beq_eq_true hb
        have hf := fill_eq (place' := fun i => some (i * ti.size, ti.size)) (fun i x hx => by
            split at hx
            · exact hx
            · cases hx) (fun i off size ei => by
            split at ei
            · rename_i hlt
              cases ei
              have hlt : i < n := by simpa [Nat.blt_eq] using hlt
              rw [← hlen, ← Nat.succ_mul]
              exact Nat.mul_le_mul_right _ hlt
            · cases ei) hfill
        have hun : G.P.underlying t = some (.array n el) := e.desc
        have hz : (zeroOf ⟨.array n el, sz, by_, z, true, cm⟩).cells = z.toArray := zero_agg rfl
        simp only [Instr.build, Sem.run_bind, run_zero e, Result.andThen_ok, run_underlying hun, hz, run_size (Tab.find_ok G.ok hti), List.map_toArray, hpv', hf, Sem.run_pure]
      · cases hv
    · cases hv
  · cases hv⟩
/-- two operations may come up now -/
theorem WH.two (i j : Nat) {hd1 hd2 : Bool} (hi : l.toArray[i]? = some o) (hj : l.toArray[j]? = some o') (hg : o.guard = none) (hg' : o'.guard = none) (hr : Region.ready .any l.toArray listed = [i, j]) (hb1 : hd1 = (hd && Nat.blt i n)) (hb2 : hd2 = (hd && Nat.blt j n))
    (h1 : OP G N o env L (fun e M => (hd1 = true → Imp M S) ∧ WH G N l.toArray n S hd1 fuel (listed.setIfInBounds i true) e M k))
    (h2 : OP G N o' env L (fun e M => (hd2 = true → Imp M S) ∧ WH G N l.toArray n S hd2 fuel (listed.setIfInBounds j true) e M k)) : WH G N l.toArray n S hd (fuel + 1) listed env L k := .mk fun a w ha hsat hS0 hcl => by
  refine ⟨fun h0 => (by rw [hr] at h0; cases h0), fun x hx => ?_⟩
  have hrx := hx
  rw [hr] at hx
  rcases List.mem_cons.1 hx with rfl | hx
  · unfold wpOp
    rw [hi]
    simp only []
    rw [if_pos (by simp [Region.wanted, hg])]
    refine .inl (wp_oper_mono ?_ (fun _ _ _ h => h.elim) (h1 a w ha hsat))
    rintro a' w' ⟨e, M, x, y, z1, z2⟩
    subst hb1
    exact ⟨fun hlt => (z1 hlt).sat y, z2 a' w' x y (fun e => (z1 e).sat y) (hcl.set hrx)⟩
  · obtain rfl := List.mem_singleton.1 hx
    unfold wpOp
    rw [hj]
    simp only []
    rw [if_pos (by simp [Region.wanted, hg'])]
    refine .inl (wp_oper_mono ?_ (fun _ _ _ h => h.elim) (h2 a w ha hsat))
    rintro a' w' ⟨e, M, x, y, z1, z2⟩
    subst hb2
    exact ⟨fun hlt => (z1 hlt).sat y, z2 a' w' x y (fun e => (z1 e).sat y) (hcl.set hrx)⟩
end
section
variable {G : Ctx} {N : Nat} {env : Env} {L : List Assn} {o : Oper} {post : Env → List Assn → Prop} {d : Nat}
end
/-- as WL.meet, with one piece of code between -/
theorem WL.meet2 {G : Ctx} {N : Nat} {ops : Array Oper} {rest : List Oper} {env : Env} {L : List Assn} {b x y : Code} {k : Kont} (k' : Env → List Assn → Prop)
    (hx : WL G N ops rest env L (seqK G N b (seqK G N x (fun e E M => match e with | .normal => k' E M | e => k e E M)))) (hy : ∀ E M, k' E M → WC G N y E M k) : WL G N ops rest env L (seqK G N (.seq b (.seq x y)) k) :=
  hx.mono (seqK_up (meetK hy))
end Go.GL
/- Contracts of functions of the given program, and plain laws on what they compute: parts of the proofs of laws. -/

namespace Go.Proofs.YtanjfjiaheghcaaGreatDoor
open Go Go.GL

/-! a primary: how it begins -/
theorem floorV {l : List UInt8} {n : Int} {v : Value} (h : FloorPost l v) (hf : floorM l = some n) : v = .tuple #[.int .i64 n, .bool true] := by
  unfold FloorPost at h
  rw [hf] at h
  exact h
set_option maxHeartbeats 16000000 in
set_option maxRecDepth 10000 in
theorem pbegin_ok (p q : Nat) (ring : Nat) (v0 g0 s0 : Value) (m0 f0 a0 : Int) (D : Dsk) (hD : D.ok) (hw : D.W.length < 10000) (hr : 1 ≤ ring ∧ ring ≤ 512) {V : Vol} {D' : Dsk} (ho : openV D ring = .ok (V, D')) {floor : Int} (hfl : 0 ≤ floor ∧ floor ≤ widest)
    (hf : D'.S.getD (ring + 10) [] = floorS floor) (hV : V.rng) (hVr : V.J.ring = ring) (hD' : D'.ok) (hW : D'.W = []) (hl : ring + 11 ≤ D'.S.length) (hn : 1 ≤ V.J.hd.first ∧ V.J.next ≤ widest) :
    Triple G 44 [.pointer (some ⟨p, 0, none⟩)] [blk p (pndC q ring v0 g0 s0 m0 f0 a0) pnT, dsk q D] (fun v M => v = .nilIface ∧ M = [priA p q (beginP V D' floor), dsk q D']) := by
  refine Triple.enter Tryz.func44 rfl (by decide) rfl Tryz.ntmps44 rfl (fun F => ?_)
  have hww := widest_eq
  have hop := vopen_ok q D ring hD hw (by omega)
  unfold OpenVP at hop
  rw [ho] at hop
  have hcur : D'.cur (ring + 10) = floorS floor := by
    have : D'.cur (ring + 10) = D'.S.getD (ring + 10) [] := by unfold Dsk.cur; rw [hW]; rfl
    rw [this, hf]
  have het : ((ring : Int) + 11 - 1).toNat = ring + 10 := by omega
  have hrd := dread_rt q D' ((ring : Int) + 11 - 1) hD' (by rw [hW]; decide)
  unfold DReadPost at hrd
  rw [het, hcur] at hrd
  have hsc := psectors_ro ring (by omega)
  have h64 := floorS_len floor
  have hfm := floorM_floorS hfl
  have hnx := fun v => vnext_ro v q V hV
  have hrec := fun v => vrecords_rt v q V hV
  have hJn : V.J.next = V.J.hd.first + V.J.held.length := rfl
  have hfold := fun (v g s : Nat) (N : List Assn) => priFold p q (beginP V D' floor) v g s (N := N)
  unfold pndC at *
  dsimp only [beginP] at hfold
  rw [hVr] at hfold
  generalize floorS floor = fS at *
  repeat (first | refine GD ?_ | refine NW fun _ => ?_)
  refine RD 8 14 (_) ?_
  refine WP 0 ?_
  refine WP 1 ?_
  refine WP 2 ?_
  refine VV 3 ?_
  refine WP 4 ?_
  refine WP 5 ?_
  refine WP 6 ?_
  refine VV 7 ?_
  refine WH.only 8 rfl rfl (by kernel_rfl) rfl (OP.call (pre := [dsk q D]) rfl rfl hop PS rfl rfl (fun v M hM => ?_))
  obtain ⟨v, rfl, rfl⟩ := hM
  refine ⟨(fun h => nomatch h), ?_⟩
  refine WP 9 ?_
  refine WP 10 ?_
  refine WP 11 ?_
  refine WP 12 ?_
  refine WP 13 ?_
  refine DN ?_
  repeat (first | refine GD ?_ | refine NW fun _ => ?_)
  refine RD 16 16 (_) ?_
  refine WP 0 ?_
  refine WP 1 ?_
  refine WP 2 ?_
  refine VV 3 ?_
  refine WP 4 ?_
  refine WP 5 ?_
  refine WP 6 ?_
  refine VV 7 ?_
  refine WH.only 8 rfl rfl (by kernel_rfl) rfl (OP.callRO rfl rfl (hsc) ((fun _ _ => trivial)) rfl rfl ⟨fun _ => II, ?_⟩)
  refine WP 9 ?_
  refine WH.only 10 rfl rfl (by kernel_rfl) rfl (OP.callRT rfl rfl hrd (Ent.at (up_dsk _ _) MM) rfl rfl (fun x E hE' => ?_))
  rw [if_pos (by omega)] at hE'
  obtain ⟨br, rfl, rfl⟩ := hE'
  refine ⟨fun _ => II, ?_⟩
  refine WP 11 ?_
  refine WP 12 ?_
  refine WP 13 ?_
  refine WP 14 ?_
  refine WP 15 ?_
  refine DN ?_
  have hfo := floorOf_rt (some ⟨br, 0, none⟩) 64 64 fS h64.symm (Nat.le_refl _) rfl
  repeat (first | refine GD ?_ | refine NW fun _ => ?_)
  refine WL.step rfl (OP.callRT rfl rfl hfo (Ent.at (up_readS _ _ _ _) MM) rfl rfl ?_)
  rintro x _ ⟨hx, rfl⟩
  rw [floorV hx hfm]
  repeat (first | refine GD ?_ | refine NW fun _ => ?_)
  refine RD 16 17 (_) ?_
  refine WP 0 ?_
  refine WP 1 ?_
  refine WP 2 ?_
  refine WP 3 ?_
  refine VV 4 ?_
  refine WP 5 ?_
  refine WP 6 ?_
  refine WP 7 ?_
  refine VV 8 ?_
  refine WP 9 ?_
  refine VQ 11 rfl (Quiet.build rfl rfl) ?_
  refine WP 13 ?_
  refine WH.two 10 12 rfl rfl rfl rfl (by kernel_rfl) rfl rfl ?_ ?_
  · refine (OP.callRT rfl rfl gnew_rt (fun _ _ => trivial) rfl rfl (fun x E hE' => ?_))
    obtain ⟨g, rfl, rfl⟩ := hE'
    refine ⟨fun _ => II, ?_⟩
    refine WH.only 12 rfl rfl (by kernel_rfl) rfl (OP.box rfl rfl rfl rfl rfl (fun s => ⟨fun _ => II, ?_⟩))
    refine VQ 14 rfl (Quiet.build rfl rfl) ?_
    refine WP 15 ?_
    refine WH.only 16 rfl rfl (by kernel_rfl) rfl (OP.store rfl rfl rfl rfl rfl rfl rfl UP rfl ⟨(fun h => nomatch h), ?_⟩)
    refine DN ?_
    by_cases hfz : floor = 0
    · subst hfz
      repeat (first | refine GD ?_ | refine NW fun _ => ?_)
      refine WL.step rfl (OP.callRO rfl rfl (hnx v) (Ent.at (up_vol _ _ _) MM) rfl rfl ?_)
      repeat (first | refine GD ?_ | refine NW fun _ => ?_)
      refine WL.step rfl (OP.callRT rfl rfl (hrec v) (Ent.at (up_vol _ _ _) MM) rfl rfl ?_)
      rintro _ _ ⟨ah, ch, rfl, rfl⟩
      have hac : V.J.next - 1 - (V.J.held.length : Int) = V.J.hd.first - 1 := by omega
      repeat (first | refine GD ?_ | refine NW fun _ => ?_)
      rw [hac]
      repeat (first | refine GD ?_ | refine NW fun _ => ?_)
      refine ret1 rfl ⟨[priA p q (beginP V D' _), dsk q D'], ⟨rfl, rfl⟩, ?_⟩
      exact Imp.trans II (Imp.trans (hfold v g s [dsk q D', F]) II)
    have hfp : 0 < floor := by omega
    have hgf := gfreeze_ok g gt0 floor 1
    unfold FreezeG at hgf
    rw [show freezeG gt0 floor 1 = .ok ⟨floor, 1, floor, []⟩ by unfold freezeG; rw [if_neg (by omega), if_neg (by show ¬ (floor ≠ 0 ∧ floor ≤ 0); omega)]; rfl] at hgf
    have hgt := gthaw_ok g ⟨floor, 1, floor, []⟩ floor
    unfold ThawG at hgt
    rw [show thawG ⟨floor, 1, floor, []⟩ floor = .ok ([], openG floor) by unfold thawG; rw [if_neg (by show ¬ (floor = 0 ∨ floor ≠ floor); omega)]; rfl] at hgt
    repeat (first | refine GD ?_ | refine NW fun _ => ?_)
    refine WL.step rfl (OP.call (pre := [gateA g gt0]) rfl rfl hgf PS rfl rfl ?_)
    rintro _ _ ⟨rfl, rfl⟩
    repeat (first | refine GD ?_ | refine NW fun _ => ?_)
    refine WL.step rfl (OP.call (pre := [gateA g ⟨floor, 1, floor, []⟩]) rfl rfl hgt PS rfl rfl ?_)
    rintro _ _ ⟨xl, E, ⟨al, cl, rfl, rfl⟩, rfl, rfl⟩
    dsimp only [List.cons_append, List.nil_append]
    repeat (first | refine GD ?_ | refine NW fun _ => ?_)
    refine WL.step rfl (OP.callRO rfl rfl (hnx v) (Ent.at (up_vol _ _ _) MM) rfl rfl ?_)
    repeat (first | refine GD ?_ | refine NW fun _ => ?_)
    refine WL.step rfl (OP.callRT rfl rfl (hrec v) (Ent.at (up_vol _ _ _) MM) rfl rfl ?_)
    rintro _ _ ⟨ah, ch, rfl, rfl⟩
    have hac : V.J.next - 1 - (V.J.held.length : Int) = V.J.hd.first - 1 := by omega
    repeat (first | refine GD ?_ | refine NW fun _ => ?_)
    rw [hac]
    repeat (first | refine GD ?_ | refine NW fun _ => ?_)
    refine ret1 rfl ⟨[priA p q (beginP V D' _), dsk q D'], ⟨rfl, rfl⟩, ?_⟩
    exact Imp.trans II (Imp.trans (hfold v g s [dsk q D', F]) II)
  · refine (OP.box rfl rfl rfl rfl rfl (fun s => ⟨fun _ => II, ?_⟩))
    refine WH.only 10 rfl rfl (by kernel_rfl) rfl (OP.callRT rfl rfl gnew_rt (fun _ _ => trivial) rfl rfl (fun x E hE' => ?_))
    obtain ⟨g, rfl, rfl⟩ := hE'
    refine ⟨fun _ => II, ?_⟩
    refine VQ 14 rfl (Quiet.build rfl rfl) ?_
    refine WP 15 ?_
    refine WH.only 16 rfl rfl (by kernel_rfl) rfl (OP.store rfl rfl rfl rfl rfl rfl rfl UP rfl ⟨(fun h => nomatch h), ?_⟩)
    refine DN ?_
    by_cases hfz : floor = 0
    · subst hfz
      repeat (first | refine GD ?_ | refine NW fun _ => ?_)
      refine WL.step rfl (OP.callRO rfl rfl (hnx v) (Ent.at (up_vol _ _ _) MM) rfl rfl ?_)
      repeat (first | refine GD ?_ | refine NW fun _ => ?_)
      refine WL.step rfl (OP.callRT rfl rfl (hrec v) (Ent.at (up_vol _ _ _) MM) rfl rfl ?_)
      rintro _ _ ⟨ah, ch, rfl, rfl⟩
      have hac : V.J.next - 1 - (V.J.held.length : Int) = V.J.hd.first - 1 := by omega
      repeat (first | refine GD ?_ | refine NW fun _ => ?_)
      rw [hac]
      repeat (first | refine GD ?_ | refine NW fun _ => ?_)
      refine ret1 rfl ⟨[priA p q (beginP V D' _), dsk q D'], ⟨rfl, rfl⟩, ?_⟩
      exact Imp.trans II (Imp.trans (hfold v g s [dsk q D', F]) II)
    have hfp : 0 < floor := by omega
    have hgf := gfreeze_ok g gt0 floor 1
    unfold FreezeG at hgf
    rw [show freezeG gt0 floor 1 = .ok ⟨floor, 1, floor, []⟩ by unfold freezeG; rw [if_neg (by omega), if_neg (by show ¬ (floor ≠ 0 ∧ floor ≤ 0); omega)]; rfl] at hgf
    have hgt := gthaw_ok g ⟨floor, 1, floor, []⟩ floor
    unfold ThawG at hgt
    rw [show thawG ⟨floor, 1, floor, []⟩ floor = .ok ([], openG floor) by unfold thawG; rw [if_neg (by show ¬ (floor = 0 ∨ floor ≠ floor); omega)]; rfl] at hgt
    repeat (first | refine GD ?_ | refine NW fun _ => ?_)
    refine WL.step rfl (OP.call (pre := [gateA g gt0]) rfl rfl hgf PS rfl rfl ?_)
    rintro _ _ ⟨rfl, rfl⟩
    repeat (first | refine GD ?_ | refine NW fun _ => ?_)
    refine WL.step rfl (OP.call (pre := [gateA g ⟨floor, 1, floor, []⟩]) rfl rfl hgt PS rfl rfl ?_)
    rintro _ _ ⟨xl, E, ⟨al, cl, rfl, rfl⟩, rfl, rfl⟩
    dsimp only [List.cons_append, List.nil_append]
    repeat (first | refine GD ?_ | refine NW fun _ => ?_)
    refine WL.step rfl (OP.callRO rfl rfl (hnx v) (Ent.at (up_vol _ _ _) MM) rfl rfl ?_)
    repeat (first | refine GD ?_ | refine NW fun _ => ?_)
    refine WL.step rfl (OP.callRT rfl rfl (hrec v) (Ent.at (up_vol _ _ _) MM) rfl rfl ?_)
    rintro _ _ ⟨ah, ch, rfl, rfl⟩
    have hac : V.J.next - 1 - (V.J.held.length : Int) = V.J.hd.first - 1 := by omega
    repeat (first | refine GD ?_ | refine NW fun _ => ?_)
    rw [hac]
    repeat (first | refine GD ?_ | refine NW fun _ => ?_)
    refine ret1 rfl ⟨[priA p q (beginP V D' _), dsk q D'], ⟨rfl, rfl⟩, ?_⟩
    exact Imp.trans II (Imp.trans (hfold v g s [dsk q D', F]) II)
end Go.Proofs.YtanjfjiaheghcaaGreatDoor
/- Contracts of functions of the given program, and plain laws on what they compute: parts of the proofs of laws. -/

namespace Go.Proofs.YtanjfjiaheghcaaGreatDoor
open Go Go.GL

/-! a primary: Open, Crash -/
set_option maxHeartbeats 8000000 in
set_option maxRecDepth 10000 in
theorem popen_ok (q : Nat) (ring : Nat) (D : Dsk) (hD : D.ok) (hw : D.W.length < 10000) (hr : 1 ≤ ring ∧ ring ≤ 512) (hlD : ring + 11 ≤ D.S.length) {V : Vol} {D' : Dsk} (ho : openV D ring = .ok (V, D')) {floor B : Int} (I : PInv (beginP V D' floor) B) (hB : B + 2 ≤ widest) (hVr : V.J.ring = ring) :
    Triple G 9 [.pointer (some ⟨q, 0, none⟩), .int .i64 ring] [dsk q D] (fun v M => ∃ p, v = .tuple #[.pointer (some ⟨p, 0, none⟩), .nilIface] ∧ M = [priA p q (beginP V D' floor), dsk q D']) := by
  refine Triple.enter Tryz.func9 rfl (by decide) rfl Tryz.ntmps9 rfl (fun F => ?_)
  have hsc := psectors_ro ring (by omega)
  have hbd := I.V.j.bound
  have hh := I.V.j.hdr
  have hww := widest_eq
  have hbg := fun p v0 g0 s0 m0 f0 a0 => pbegin_ok p q ring v0 g0 s0 m0 f0 a0 D hD hw hr ho I.fr (by rw [← hVr]; exact I.fl) (I.rng hB) hVr I.V.j.dok I.W (by rw [← hVr]; exact I.len) ⟨hh.2.1, by unfold Jrn.next; have : (beginP V D' floor).V = V := rfl; rw [this] at hbd hh; omega⟩
  unfold pndC at hbg
  repeat (first | refine GD ?_ | refine NW fun _ => ?_)
  refine WL.guardT rfl rfl rfl rfl (OP.callRO rfl rfl (dlen_ro q D) (Ent.at (up_dsk _ _) MM) rfl rfl ?_)
  repeat (first | refine GD ?_ | refine NW fun _ => ?_)
  refine WL.guardT rfl rfl rfl rfl (OP.callRO rfl rfl hsc (fun _ _ => trivial) rfl rfl ?_)
  repeat (first | refine GD ?_ | refine NW fun _ => ?_)
  rename_i p
  refine WL.step rfl (OP.call (pre := [blk p _ pnT, dsk q D]) rfl rfl (hbg p (.pointer none) (.pointer none) (.pointer none) 0 0 0) PS rfl rfl ?_)
  rintro _ _ ⟨rfl, rfl⟩
  repeat (first | refine GD ?_ | refine NW fun _ => ?_)
  exact ret2 rfl rfl ⟨[priA p q (beginP V D' floor), dsk q D'], ⟨p, rfl, rfl⟩, II⟩
set_option maxHeartbeats 8000000 in
set_option maxRecDepth 10000 in
theorem pcrash_ok (p q : Nat) (P : Pri) (B : Int) (I : PInv P B) (hB : B + 4 ≤ widest) (keep : Int) (hk : 0 ≤ keep ∧ keep < 18446744073709551616) :
    Triple G 33 [.pointer (some ⟨p, 0, none⟩), .int .u64 keep] [priA p q P, dsk q P.D] (fun v M => v = .nilIface ∧ M = [priA p q (crashP P keep), dsk q (crashP P keep).D]) := by
  refine Triple.enter Tryz.func33 rfl (by decide) rfl Tryz.ntmps33 rfl (fun F => ?_)
  refine WC.open (M := [dsk q P.D, F]) (Ls := priL p q P) II (fun x => ?_)
  obtain ⟨v, g, s⟩ := x
  obtain ⟨V', D', ho, hcr, I', _, _, e3, e4, e5, e6, e7⟩ := I.crash hB keep
  have hr := I.V.j.ring
  have hbd := I'.V.j.bound
  have hww := widest_eq
  have hh := I'.V.j.hdr
  have hdc := dcrash_ok q P.D keep hk I.V.j.dok (by rw [I.W]; decide)
  have hbg := pbegin_ok p q P.V.J.ring (.pointer (some ⟨v, 0, none⟩)) (.pointer (some ⟨g, 0, none⟩)) (.pointer (some ⟨s, 0, none⟩)) P.marked P.floor P.acked (P.D.crash keep) (Dsk.settle_ok I.V.j.dok _) (by show (0 : Nat) < 10000; decide) ⟨hr.1, hr.2.1⟩ ho I.fr e7 (I'.rng (by omega)) e3 I'.V.j.dok I'.W (by rw [e6]; exact I.len) ⟨hh.2.1, by unfold Jrn.next; have : (beginP V' D' P.floor).V = V' := rfl; rw [this] at hbd hh; omega⟩
  rw [hcr]
  unfold priL
  dsimp only [List.cons_append, List.nil_append]
  unfold pndC at *
  repeat (first | refine GD ?_ | refine NW fun _ => ?_)
  refine WL.step rfl (OP.call (pre := [dsk q P.D]) rfl rfl hdc PS rfl rfl ?_)
  rintro _ _ ⟨rfl, rfl⟩
  repeat (first | refine GD ?_ | refine NW fun _ => ?_)
  refine WL.step rfl (OP.call (pre := [blk p _ pnT, dsk q (P.D.crash keep)]) rfl rfl hbg PS rfl rfl ?_)
  rintro _ _ ⟨rfl, rfl⟩
  repeat (first | refine GD ?_ | refine NW fun _ => ?_)
  refine WL.step rfl (OP.callRO rfl rfl (pwrong_nil 0) (fun _ _ => trivial) rfl rfl ?_)
  repeat (first | refine GD ?_ | refine NW fun _ => ?_)
  exact ret1 rfl ⟨[priA p q (beginP V' D' P.floor), dsk q D'], ⟨rfl, rfl⟩, II⟩
end Go.Proofs.YtanjfjiaheghcaaGreatDoor
/- Contracts of functions of the given program, and plain laws on what they compute: parts of the proofs of laws. -/
namespace Go.Proofs.YtanjfjiaheghcaaGreatDoor
open Go Go.GL

/-! a primary's calls that come to pass -/
theorem PInv.writeOk {P : Pri} {B : Int} (I : PInv P B) (hB : B + 4 ≤ widest) {c : Call} {e now : Int} (hk : checkS P.S e now = none) (hc : RightC c) (h0 : P.G.round = 0) (hf : P.V.J.held.length ≠ P.V.J.ring) :
    ∃ P', writeP P c e now = (.ok P.V.J.next, P') ∧ PInv P' (B + 2) ∧ DidP P c P' ∧ P'.S = P.S.at_ now := by
  have hw : writeP P c e now = enterP (P.at_ now) c := by
    unfold writeP
    rw [hk]
    dsimp only
    rw [if_neg (fun h => h hc.1), if_neg (by have := hc.2; omega)]
  have he : enterP (P.at_ now) c = match doP (P.at_ now) c with
      | .error (l, k) => (.error ((primT, c.2.1) :: l, k), P.at_ now)
      | .ok (k, P') => (.ok k, P') := by
    have h0' : (P.at_ now).G.round = 0 := h0
    unfold enterP
    rw [if_pos h0']
    rfl
  rcases (I.at_ now).do_ hB hc with ⟨hx, _⟩ | ⟨_, P', h, I', e1, e2, e3, e4, e5, e6, e7, e8, e9, _⟩
  · exact absurd hx hf
  · rw [hw, he, h]
    exact ⟨P', rfl, I', ⟨⟨e5, e7, e8, e9, e3, e4, by rw [e6]; rfl, by rw [e6]; rfl⟩, e1, e2⟩, e6⟩
theorem grantS_st0 {e : Int} (h : 1 ≤ e) : grantS st0 e 0 = (none, ⟨0, e, 10⟩) := by
  unfold grantS
  rw [if_neg (by omega), if_neg (by show ¬ e < 0; omega)]
  rfl
theorem checkS_at {e til e' now : Int} (h : e ≠ 0) : checkS ⟨0, e, til⟩ e' now = if e' ≠ e then some 10 else if til ≤ max 0 (min now big60) then some 11 else none := by
  unfold checkS
  dsimp only [St.at_]
  by_cases h1 : e' = e
  · have a1 : ¬ (e = 0 ∨ e' ≠ e) := by rintro (x | x); exact h x; exact x h1
    have a2 : ¬ (e' ≠ e) := fun x => x h1
    rw [if_neg a1, if_neg a2]
    rfl
  · have a1 : e = 0 ∨ e' ≠ e := .inr h1
    rw [if_pos a1, if_pos h1]
end Go.Proofs.YtanjfjiaheghcaaGreatDoor
/- Contracts of functions of the given program, and plain laws on what they compute: parts of the proofs of laws. -/

namespace Go.Proofs.YtanjfjiaheghcaaGreatDoor
open Go Go.GL

set_option maxHeartbeats 8000000 in
set_option maxRecDepth 10000 in
theorem pawake_ro : RO G 4 [] (fun _ => True) (.bool true) := by
  refine RO.enter Tryz.func4 rfl (by decide) rfl Tryz.ntmps4 rfl (fun A hu hA => ?_) (fun _ _ _ h => h)
  have hw := widest_eq
  obtain ⟨V, D, ho, I0, hring, hheld, hnext, hblks, hlen, hW, _⟩ := PInv.fresh (ring := 4) (by decide) (by decide)
  have ho' : openV (Dsk.new 15) (4 : Nat) = .ok (V, D) := ho
  have hpo := fun q => popen_ok q 4 (Dsk.new 15) (Dsk.new_ok 15) (by decide) (by decide) (by decide) ho' I0 (by omega) hring
  have hgr := fun p q => pgrant_ok p q (beginP V D 0) 1 0 I0.st
  have hgS : grantP (beginP V D 0) 1 0 = (none, { beginP V D 0 with S := ⟨0, 1, 10⟩ }) := by
    unfold grantP
    rw [show (beginP V D 0).S = st0 from rfl, grantS_st0 (by decide)]
  have I1 := (I0.grant 1 0).1
  rw [hgS] at I1
  have hwk := I1.writeOk (by omega) (c := (1, 0, ⟨#[97]⟩)) (e := 1) (now := 0) (by show checkS ⟨0, 1, 10⟩ 1 0 = none; rw [checkS_at (by decide)]; decide) ⟨by decide, by decide⟩ rfl (by show V.J.held.length ≠ V.J.ring; rw [hheld, hring]; decide)
  obtain ⟨P2', hwe, I2, hd, _⟩ := hwk
  have hwr := fun p q => pwrite_ok p q _ _ I1 (by omega) (1, 0, ⟨#[97]⟩) (by decide) 1 0
  rw [hwe] at hwr
  have hn1 : ({ beginP V D 0 with S := ⟨0, 1, 10⟩ } : Pri).V.J.next = 1 := hnext
  rw [hn1] at hwr
  have hsl : (shipP P2').length = 1 := by
    unfold shipP
    have hh := hd.held
    rw [show ({ beginP V D 0 with S := ⟨0, 1, 10⟩ } : Pri).V.J.held = [] from hheld] at hh
    rw [hh]
    rfl
  have hsh := fun p q => pship_rt p q P2' _ I2 (by omega)
  have hD0 : ({ beginP V D 0 with S := ⟨0, 1, 10⟩ } : Pri).D = D := rfl
  rw [hsl] at hsh
  generalize ({ beginP V D 0 with S := ⟨0, 1, 10⟩ } : Pri) = Pg at *
  repeat (first | refine GO ?_ | refine NW fun _ => ?_)
  refine WL.step rfl (OP.callRO rfl rfl (psectors_ro 4 (by decide)) (fun _ _ => trivial) rfl rfl ?_)
  refine WL.step rfl (OP.callRT rfl rfl (dnew_rt 15) (fun _ _ => trivial) rfl rfl ?_)
  rintro _ _ ⟨q, rfl, rfl⟩
  repeat (first | refine GO ?_ | refine NW fun _ => ?_)
  refine WL.step rfl (OP.call (pre := [dsk q (Dsk.new 15)]) rfl rfl (hpo q) PS rfl rfl ?_)
  rintro _ _ ⟨p, rfl, rfl⟩
  repeat (first | refine GO ?_ | refine NW fun _ => ?_)
  refine WL.guardT rfl rfl rfl rfl (OP.callRO rfl rfl (psectors_ro 4 (by decide)) (fun _ _ => trivial) rfl rfl ?_)
  repeat (first | refine GO ?_ | refine NW fun _ => ?_)
  refine WL.guardT rfl rfl rfl rfl (OP.call (pre := [priA p q (beginP V D 0)]) rfl rfl (hgr p q) PS rfl rfl ?_)
  rintro _ _ ⟨E, hE, rfl⟩
  rw [hgS] at hE
  obtain ⟨rfl, rfl⟩ := hE
  rw [hgS]
  dsimp only [List.cons_append, List.nil_append]
  repeat (first | refine GD ?_ | refine NW fun _ => ?_)
  refine WL.step rfl (OP.call (pre := [priA p q Pg, dsk q Pg.D]) rfl rfl (hwr p q) (by rw [hD0]; exact PS) rfl rfl ?_)
  rintro _ _ ⟨rfl, rfl⟩
  dsimp only [List.cons_append, List.nil_append]
  repeat (first | refine GD ?_ | refine NW fun _ => ?_)
  refine WL.guardT rfl rfl rfl rfl (OP.callRT rfl rfl (hsh p q) (Ent.at (up_priA _ _ _) MM) rfl rfl ?_)
  rintro _ _ ⟨sa, sc, rfl, rfl⟩
  repeat (first | refine GD ?_ | refine NW fun _ => ?_)
  exact ret1 rfl ⟨rfl, MM⟩
/-- a call: its kind, an epoch, a time, a number, a write, what is kept -/
abbrev QOp := Int × Int × Int × Int × Call × Int
def encQ (o : QOp) : List Value := [.int .i64 o.1, .int .i64 o.2.1, .int .i64 o.2.2.1, .int .i64 o.2.2.2.1] ++ encCa o.2.2.2.2.1 ++ [.int .u64 o.2.2.2.2.2]
theorem encQ_len (o : QOp) : (encQ o).length = 8 := rfl
def QWf (o : QOp) : Prop := 0 ≤ o.2.2.2.2.2 ∧ o.2.2.2.2.2 < 18446744073709551616
theorem qop_of {x : List Value} (h : LfsOk [.int .i64, .int .i64, .int .i64, .int .i64, .int .i64, .int .i64, .str, .int .u64] x) : ∃ o : QOp, x = encQ o ∧ QWf o := by
  obtain ⟨k, s, rfl, _, h⟩ := h.int
  obtain ⟨e, s, rfl, _, h⟩ := h.int
  obtain ⟨t, s, rfl, _, h⟩ := h.int
  obtain ⟨n, s, rfl, _, h⟩ := h.int
  obtain ⟨a, s, rfl, _, h⟩ := h.int
  obtain ⟨b, s, rfl, _, h⟩ := h.int
  obtain ⟨d, s, rfl, _, h⟩ := h.str
  obtain ⟨kp, s, rfl, w, h⟩ := h.int
  rw [h.nil]
  exact ⟨(k, e, t, n, (a, b, d), kp), rfl, by have := wf_u64 w; unfold QWf; dsimp only; omega⟩
def fewQ (l : List QOp) : Bool := decide (l.length ≤ 100) && l.all (fun o => decide (o.2.2.2.2.1.2.2.size ≤ 100))
theorem fewQ_ok {l : List QOp} (h : fewQ l = true) : l.length ≤ 100 ∧ ∀ o ∈ l, o.2.2.2.2.1.2.2.size ≤ 100 := by
  unfold fewQ at h
  rw [Bool.and_eq_true] at h
  exact ⟨of_decide_eq_true h.1, fun o ho => of_decide_eq_true (List.all_eq_true.1 h.2 o ho)⟩
set_option maxHeartbeats 1000000 in
set_option maxRecDepth 10000 in
theorem pfew_ro (a : Option Addr) (n c : Nat) (l : List QOp) (hn : n = l.length) : RO G 5 [.slice a n c] (readS a n 8 (l.flatMap encQ)) (.bool (fewQ l)) := by
  refine RO.enter Tryz.func5 rfl (by decide) rfl Tryz.ntmps5 rfl (fun A hu hA => ?_) (up_readS _ _ _ _)
  have hE : ∀ {L}, A ∈ L → Ent L (readS a n 8 (l.flatMap encQ)) := fun m => Ent.mem m hu hA
  by_cases h80 : 100 < n
  · have hf : fewQ l = false := by unfold fewQ; rw [decide_eq_false (by omega)]; rfl
    rw [hf]
    repeat (first | refine GD ?_ | refine NW fun _ => ?_)
    exact ret1 rfl ⟨rfl, MM⟩
  have hfd : fewQ l = l.all (fun o => decide (o.2.2.2.2.1.2.2.size ≤ 100)) := by unfold fewQ; rw [decide_eq_true (by omega)]; rfl
  rw [hfd]
  repeat (first | refine GD ?_ | refine NW fun _ => ?_)
  refine WC.loop (σ := Nat) (fun k => k ≤ n ∧ ∀ o ∈ l.take k, o.2.2.2.2.1.2.2.size ≤ 100)
    (fun k => [(0, .val (.slice a n c)), (8, .val (.int .i64 n)), (9, .val (.int .i64 k))])
    (fun k => [A]) (fun k => n - k) 0 ⟨Nat.zero_le _, by simp⟩ ⟨rfl, rfl, rfl, trivial⟩ (Imp.refl _) ?_
  rintro k ⟨hk, hall⟩
  by_cases hlt : k < n
  rotate_left
  · have hk2 : k = l.length := by omega
    rw [hk2, List.take_length] at hall
    have ht : l.all (fun o => decide (o.2.2.2.2.1.2.2.size ≤ 100)) = true := List.all_eq_true.2 (fun o ho => decide_eq_true (hall o ho))
    rw [ht]
    repeat (first | refine GD ?_ | refine NW fun _ => ?_)
    exact ret1 rfl ⟨rfl, MM⟩
  have hlk : k < l.length := by omega
  have hmem : l[k] ∈ l := List.getElem_mem hlk
  have hsnoc : l.take (k + 1) = l.take k ++ [l[k]] := (List.take_append_getElem hlk).symm
  refine WC.fact (Ent.some (hE MM) (by omega)) ?_
  rintro ⟨b, off, rfl⟩
  repeat (first | refine GD ?_ | refine NW fun _ => ?_)
  refine WL.step rfl (OP.load1 (v := .string l[k].2.2.2.2.1.2.2) rfl rfl rfl rfl (by rw [Nat.add_assoc, Nat.add_assoc]; exact Ent.elF encQ_len (j := 6) (hE MM) hlk rfl rfl) rfl rfl ?_)
  generalize l[k] = o at *
  by_cases h300 : 100 < (o.2.2.2.2.1.2.2.size : Int)
  · have ht : l.all (fun o => decide (o.2.2.2.2.1.2.2.size ≤ 100)) = false := by
      cases hq : l.all (fun o => decide (o.2.2.2.2.1.2.2.size ≤ 100))
      · rfl
      · have := of_decide_eq_true (List.all_eq_true.1 hq o hmem)
        omega
    rw [ht]
    repeat (first | refine GD ?_ | refine NW fun _ => ?_)
    exact ret1 rfl ⟨rfl, MM⟩
  · repeat (first | refine GD ?_ | refine NW fun _ => ?_)
    refine ⟨k + 1, ⟨by omega, ?_⟩, by omega, ⟨rfl, rfl, rfl, trivial⟩, Imp.refl _⟩
    intro o' ho'
    rw [hsnoc] at ho'
    rcases List.mem_append.1 ho' with h | h
    · exact hall o' h
    · rw [List.mem_singleton.1 h]; omega
end Go.Proofs.YtanjfjiaheghcaaGreatDoor
/- Contracts of functions of the given program, and plain laws on what they compute: parts of the proofs of laws. -/

namespace Go.Proofs.YtanjfjiaheghcaaGreatDoor
open Go Go.GL

set_option maxRecDepth 10000 in
theorem pplace_nil (at_ : Int) : RO G 11 [.nilIface, .int .i64 at_, .int .i64 0] (fun _ => True) (.bool true) := by
  refine RO.enter Tryz.func11 rfl (by decide) rfl Tryz.ntmps11 rfl (fun A hu hA => ?_) (fun _ _ _ h => h)
  repeat (first | refine GO ?_ | refine NW fun _ => ?_)
  refine WL.step rfl (OP.callRO rfl rfl (first_nil primT) (fun _ _ => trivial) rfl rfl ?_)
  repeat (first | refine GD ?_ | refine NW fun _ => ?_)
  refine WL.step rfl (OP.callRO rfl rfl code_nil (fun _ _ => trivial) rfl rfl ?_)
  repeat (first | refine GD ?_ | refine NW fun _ => ?_)
  exact ret1 rfl ⟨rfl, MM⟩
set_option maxHeartbeats 1000000 in
set_option maxRecDepth 10000 in
theorem pplace_err (ch : Chain) (c at_ : Int) (l : List (ByteArray × Int)) (hch : ch.map Prod.snd = (primT, at_) :: l) (hl : ch.length < 1000) (hc : c ≠ 0) : RO G 11 [valOf ch c, .int .i64 at_, .int .i64 c] (chainE ch c) (.bool true) := by
  refine RO.enter Tryz.func11 rfl (by decide) rfl Tryz.ntmps11 rfl (fun A hu hA => ?_) (up_chainE ch c)
  have hfc := firstC_ro ch c primT hl
  have hfv : firstV (firstC primT (ch.map Prod.snd)) = .tuple #[.int .i64 at_, .bool true] := by rw [hch]; rfl
  rw [hfv] at hfc
  have hcc := codeC ch c
  cases ch with
  | nil => cases hch
  | cons y ch =>
    dsimp only [valOf] at hfc hcc ⊢
    repeat (first | refine GO ?_ | refine NW fun _ => ?_)
    refine WL.step rfl (OP.callRO rfl rfl hfc (Ent.mem MM hu hA) rfl rfl ?_)
    repeat (first | refine GD ?_ | refine NW fun _ => ?_)
    refine WL.step rfl (OP.callRO rfl rfl hcc (Ent.mem MM hu hA) rfl rfl ?_)
    repeat (first | refine GD ?_ | refine NW fun _ => ?_)
    exact ret1 rfl ⟨rfl, MM⟩
end Go.Proofs.YtanjfjiaheghcaaGreatDoor
/- Contracts of functions of the given program, and plain laws on what they compute: parts of the proofs of laws. -/
namespace Go.Proofs.YtanjfjiaheghcaaGreatDoor
open Go Go.GL

/-! a primary's errors: each begins with its own, and has a number -/
def GoodEr (er : Option Er1) (a : Int) : Prop := ∀ l c, er = some (l, c) → (∃ s, l = (primT, a) :: s ∧ s.length < 200) ∧ c ≠ 0
theorem GoodEr.none (a : Int) : GoodEr none a := fun _ _ h => nomatch h
theorem GoodEr.mk {l s : List (ByteArray × Int)} {c a : Int} (h : l = (primT, a) :: s) (hs : s.length < 200) (hc : c ≠ 0) : GoodEr (some (l, c)) a := fun _ _ e => by cases e; exact ⟨⟨s, h, hs⟩, hc⟩
theorem appV_er2 {V : Vol} {D : Dsk} {a : Int} {r : Rec} {l : List (ByteArray × Int)} {c : Int} (h : appV V D a r = .error (l, c)) : l.length < 200 ∧ c ≠ 0 := by
  unfold appV at h
  split at h
  · cases h
  · rename_i c' hq
    cases h
    refine ⟨?_, ?_⟩
    · unfold appEr
      split <;> simp
    · unfold appendM at hq
      split at hq
      · cases hq; decide
      · split at hq <;> cases hq; decide
theorem grantP_er (P : Pri) (e now : Int) : GoodEr (grantP P e now).1 e := by
  unfold grantP
  cases hq : (grantS P.S e now).1 with
  | none => exact .none _
  | some c => exact .mk rfl (by simp) (grantS_code hq)
theorem freezeG_code {g : Gt} {r t c : Int} (h : freezeG g r t = .error c) : c ≠ 0 := by
  unfold freezeG at h
  split at h
  · cases h; decide
  split at h
  · cases h; decide
  · cases h
theorem freezeP_er (P : Pri) (r : Int) : GoodEr (freezeP P r).1 r := by
  unfold freezeP
  split
  · exact .mk rfl (by simp) (by decide)
  cases hq : freezeG P.G r 6 with
  | error c => exact .mk rfl (by simp) (freezeG_code hq)
  | ok g => exact .none _
theorem markP_er (P : Pri) (r : Int) : GoodEr (markP P r).1 r := by
  unfold markP
  split
  · exact .mk rfl (by simp) (by decide)
  split
  · exact .none _
  cases hq : markV P.V P.D r with
  | error lc =>
    obtain ⟨l, c⟩ := lc
    obtain ⟨h1, h2⟩ := appV_er2 hq
    exact .mk rfl h1 h2
  | ok y => exact .none _
theorem thawP_er (P : Pri) (r now : Int) : GoodEr (thawP P r now).2.1 r := by
  unfold thawP thawG
  split
  · rename_i c h
    split at h
    · cases h; exact .mk rfl (by simp) (by decide)
    · cases h
  · exact .none _
theorem ackP_er (P : Pri) (u : Int) : GoodEr (ackP P u).1 u := by
  unfold ackP
  split
  · exact .mk rfl (by simp) (by decide)
  split
  · exact .none _
  split <;> exact .none _
theorem doP_er {P : Pri} {c : Call} {l : List (ByteArray × Int)} {k : Int} (h : doP P c = .error (l, k)) : l.length < 190 ∧ k ≠ 0 := by
  unfold doP writeV at h
  split at h
  · rename_i e hq
    cases h
    split at hq
    · cases hq; exact ⟨by simp, by decide⟩
    split at hq
    · cases hq; exact ⟨by simp, by decide⟩
    · unfold appV at hq
      split at hq
      · cases hq
      · rename_i c' hq'
        cases hq
        refine ⟨?_, ?_⟩
        · unfold appEr
          split <;> simp
        · unfold appendM at hq'
          split at hq'
          · cases hq'; decide
          · split at hq' <;> cases hq'; decide
  · cases h
def erE (e : Except Er1 Int) : Option Er1 := match e with
  | .ok _ => none
  | .error er => some er
theorem writeP_er (P : Pri) (c : Call) (e now : Int) : GoodEr (erE (writeP P c e now).1) c.2.1 := by
  unfold writeP
  split
  · rename_i k hk
    exact .mk rfl (by simp) (checkS_ne hk)
  split
  · exact .mk rfl (by simp) (by decide)
  split
  · exact .mk rfl (by simp) (by decide)
  unfold enterP
  split
  · split
    · rename_i l k hq
      obtain ⟨h1, h2⟩ := doP_er hq
      exact .mk rfl (by omega) h2
    · exact .none _
  split
  · exact .mk rfl (by simp) (by decide)
  · exact .none _
theorem readV_er {V : Vol} {b : Int} {l : List (ByteArray × Int)} {c : Int} (h : readV V b = .error (l, c)) : GoodEr (some ((primT, b) :: l, c)) b := by
  unfold readV at h
  split at h
  · cases h; exact .mk rfl (by simp) (by decide)
  · cases h
end Go.Proofs.YtanjfjiaheghcaaGreatDoor
/- Contracts of functions of the given program, and plain laws on what they compute: parts of the proofs of laws. -/

namespace Go.Proofs.YtanjfjiaheghcaaGreatDoor
open Go Go.GL

/-! the document's gate and site -/
abbrev rsT : TypeId := 110
abbrev rgT : TypeId := 79
abbrev rcT : TypeId := 39
def rsiteC (s : St) : List Value := [.int .i64 s.epoch, .int .i64 s.til, .int .i64 s.now]
def rsiteA (b : Nat) (s : St) : Assn := blk b (rsiteC s) rsT
def cdO (o : Option Int) : Value := .int .i64 (o.getD 0)
set_option maxRecDepth 10000 in
theorem rltime_ok (b : Nat) (s : St) (now : Int) : Triple G 50 [.pointer (some ⟨b, 0, none⟩), .int .i64 now] [rsiteA b s] (fun v M => v = .int .i64 (s.at_ now).now ∧ M = [rsiteA b (s.at_ now)]) := by
  refine Triple.enter Tryz.func50 rfl (by decide) rfl Tryz.ntmps50 rfl (fun F => ?_)
  unfold rsiteA rsiteC
  have hx : (s.at_ now).now = (if s.now < (if 1152921504606846976 < now then 1152921504606846976 else now) then (if 1152921504606846976 < now then 1152921504606846976 else now) else s.now) := by
    show max s.now (min now 1152921504606846976) = _
    split <;> split <;> omega
  repeat (first | refine GD ?_ | refine NW fun _ => ?_)
  rw [← hx]
  exact ret1 rfl ⟨_, ⟨rfl, rfl⟩, II⟩
set_option maxHeartbeats 2000000 in
set_option maxRecDepth 10000 in
theorem rlgrant_ok (b : Nat) (s : St) (hs : s.ok) (e now : Int) : Triple G 13 [.pointer (some ⟨b, 0, none⟩), .int .i64 e, .int .i64 now] [rsiteA b s] (fun v M => v = cdO (grantS s e now).1 ∧ M = [rsiteA b (grantS s e now).2]) := by
  refine Triple.enter Tryz.func13 rfl (by decide) rfl Tryz.ntmps13 rfl (fun F => ?_)
  have hb := big60_eq
  have ha := St.at_ok hs now
  have hdef : grantS s e now = if e < 1 then (some 1, s.at_ now) else if e < s.epoch then (some 10, s.at_ now) else (none, { s.at_ now with epoch := e, til := (s.at_ now).now + 10 }) := rfl
  repeat (first | refine GD ?_ | refine NW fun _ => ?_)
  refine WL.step rfl (OP.call (pre := [rsiteA b s]) rfl rfl (rltime_ok b s now) PS rfl rfl ?_)
  rintro _ _ ⟨rfl, rfl⟩
  have he : (s.at_ now).epoch = s.epoch := rfl
  rw [← he] at hdef
  generalize s.at_ now = t at *
  obtain ⟨tn, te, tt⟩ := t
  dsimp only at ha hdef he ⊢
  unfold rsiteA rsiteC
  dsimp only
  by_cases h1 : e < 1
  · rw [if_pos h1] at hdef
    repeat (first | refine GD ?_ | refine NW fun _ => ?_)
    exact ret1 rfl ⟨_, by rw [hdef]; exact ⟨rfl, rfl⟩, II⟩
  rw [if_neg h1] at hdef
  by_cases h2 : e < te
  · rw [if_pos h2] at hdef
    repeat (first | refine GD ?_ | refine NW fun _ => ?_)
    exact ret1 rfl ⟨_, by rw [hdef]; exact ⟨rfl, rfl⟩, II⟩
  rw [if_neg h2] at hdef
  repeat (first | refine GD ?_ | refine NW fun _ => ?_)
  exact ret1 rfl ⟨_, by rw [hdef]; exact ⟨rfl, rfl⟩, II⟩
set_option maxHeartbeats 2000000 in
set_option maxRecDepth 10000 in
theorem rlcheck_ok (b : Nat) (s : St) (e now : Int) : Triple G 55 [.pointer (some ⟨b, 0, none⟩), .int .i64 e, .int .i64 now] [rsiteA b s] (fun v M => v = cdO (checkS s e now) ∧ M = [rsiteA b (s.at_ now)]) := by
  refine Triple.enter Tryz.func55 rfl (by decide) rfl Tryz.ntmps55 rfl (fun F => ?_)
  have hdef : checkS s e now = if (s.at_ now).epoch = 0 ∨ e ≠ (s.at_ now).epoch then some 10 else if (s.at_ now).til ≤ (s.at_ now).now then some 11 else none := rfl
  repeat (first | refine GD ?_ | refine NW fun _ => ?_)
  refine WL.step rfl (OP.call (pre := [rsiteA b s]) rfl rfl (rltime_ok b s now) PS rfl rfl ?_)
  rintro _ _ ⟨rfl, rfl⟩
  generalize s.at_ now = t at *
  obtain ⟨tn, te, tt⟩ := t
  dsimp only at hdef ⊢
  unfold rsiteA rsiteC
  dsimp only
  by_cases h1 : te = 0
  · rw [if_pos (.inl h1)] at hdef
    repeat (first | refine GD ?_ | refine NW fun _ => ?_)
    exact ret1 rfl ⟨_, by rw [hdef]; exact ⟨rfl, rfl⟩, II⟩
  by_cases h2 : e = te
  rotate_left
  · rw [if_pos (.inr h2)] at hdef
    repeat (first | refine GD ?_ | refine NW fun _ => ?_)
    exact ret1 rfl ⟨_, by rw [hdef]; exact ⟨rfl, rfl⟩, II⟩
  rw [if_neg (fun h => by rcases h with h | h; exact h1 h; exact h h2)] at hdef
  by_cases h3 : tt ≤ tn
  · rw [if_pos h3] at hdef
    repeat (first | refine GD ?_ | refine NW fun _ => ?_)
    exact ret1 rfl ⟨_, by rw [hdef]; exact ⟨rfl, rfl⟩, II⟩
  rw [if_neg h3] at hdef
  repeat (first | refine GD ?_ | refine NW fun _ => ?_)
  exact ret1 rfl ⟨_, by rw [hdef]; exact ⟨rfl, rfl⟩, II⟩
def rgateL (b : Nat) (g : Gt) (x : Option Addr × Nat) : List Assn := [blk b (gateC g x) rgT, ownS x.1 g.wait.length x.2 rcT 3 (g.wait.flatMap encCa)]
def rgateA (b : Nat) (g : Gt) : Assn := exA (rgateL b g)
theorem rgateFold (b : Nat) (g : Gt) (x : Option Addr × Nat) {N : List Assn} : Imp (blk b (gateC g x) rgT :: ownS x.1 g.wait.length x.2 rcT 3 (g.wait.flatMap encCa) :: N) (rgateA b g :: N) := Imp.fold (Ls := rgateL b g) x
def RCallsA (l : List Call) (v : Value) (E : List Assn) : Prop := ∃ a cap, v = .slice a l.length cap ∧ E = [ownS a l.length cap rcT 3 (l.flatMap encCa)]
theorem allOne_ca (l : List Call) : allOne (l.flatMap encCa) = true := by
  induction l with
  | nil => rfl
  | cons x r ih => rw [List.flatMap_cons]; simpa [encCa, allOne, one] using ih
def RFreezeG (b : Nat) (g : Gt) (round ticks : Int) (v : Value) (M : List Assn) : Prop := match freezeG g round ticks with
  | .ok g' => v = .int .i64 0 ∧ M = [rgateA b g']
  | .error c => v = .int .i64 c ∧ M = [rgateA b g]
set_option maxHeartbeats 2000000 in
set_option maxRecDepth 10000 in
theorem rgfreeze_ok (b : Nat) (g : Gt) (round ticks : Int) : Triple G 64 [.pointer (some ⟨b, 0, none⟩), .int .i64 round, .int .i64 ticks] [rgateA b g] (RFreezeG b g round ticks) := by
  refine Triple.enter Tryz.func64 rfl (by decide) rfl Tryz.ntmps64 rfl (fun F => ?_)
  refine WC.open (M := [F]) (Ls := rgateL b g) II (fun x => ?_)
  have hdef : freezeG g round ticks = if round < 1 ∨ ticks < 1 then .error 1
    else if round ≠ g.round ∧ round ≤ g.latest then .error 10
    else .ok { g with round := round, latest := round, left := ticks } := rfl
  have hback := fun (g' : Gt) (N : List Assn) => rgateFold b g' x (N := N)
  unfold rgateL
  unfold gateC at *
  dsimp only [List.cons_append, List.nil_append]
  unfold RFreezeG
  by_cases h1 : round < 1
  · rw [if_pos (.inl h1)] at hdef
    repeat (first | refine GD ?_ | refine NW fun _ => ?_)
    exact ret1 rfl ⟨[rgateA b g], by rw [hdef]; exact ⟨rfl, rfl⟩, Imp.trans II (hback g [F])⟩
  by_cases h2 : ticks < 1
  · rw [if_pos (.inr h2)] at hdef
    repeat (first | refine GD ?_ | refine NW fun _ => ?_)
    exact ret1 rfl ⟨[rgateA b g], by rw [hdef]; exact ⟨rfl, rfl⟩, Imp.trans II (hback g [F])⟩
  rw [if_neg (fun h => by rcases h with h | h; exact h1 h; exact h2 h)] at hdef
  by_cases h3 : round = g.round
  · rw [if_neg (fun h => h.1 h3)] at hdef
    repeat (first | refine GD ?_ | refine NW fun _ => ?_)
    refine ret1 rfl ⟨[rgateA b { g with round := round, latest := round, left := ticks }], by rw [hdef]; exact ⟨rfl, rfl⟩, ?_⟩
    exact Imp.trans II (hback { g with round := round, latest := round, left := ticks } [F])
  by_cases h4 : round ≤ g.latest
  · rw [if_pos ⟨h3, h4⟩] at hdef
    repeat (first | refine GD ?_ | refine NW fun _ => ?_)
    exact ret1 rfl ⟨[rgateA b g], by rw [hdef]; exact ⟨rfl, rfl⟩, Imp.trans II (hback g [F])⟩
  rw [if_neg (fun h => h4 h.2)] at hdef
  repeat (first | refine GD ?_ | refine NW fun _ => ?_)
  refine ret1 rfl ⟨[rgateA b { g with round := round, latest := round, left := ticks }], by rw [hdef]; exact ⟨rfl, rfl⟩, ?_⟩
  exact Imp.trans II (hback { g with round := round, latest := round, left := ticks } [F])
set_option maxHeartbeats 2000000 in
set_option maxRecDepth 10000 in
theorem rgopen_ok (b : Nat) (g : Gt) : Triple G 113 [.pointer (some ⟨b, 0, none⟩)] [rgateA b g] (fun v M => ∃ E, RCallsA g.wait v E ∧ M = E ++ [rgateA b g.opened]) := by
  refine Triple.enter Tryz.func113 rfl (by decide) rfl Tryz.ntmps113 rfl (fun F => ?_)
  refine WC.open (M := [F]) (Ls := rgateL b g) II (fun x => ?_)
  have hback := fun (g' : Gt) (x : Option Addr × Nat) (N : List Assn) => rgateFold b g' x (N := N)
  unfold rgateL
  unfold gateC at *
  dsimp only [List.cons_append, List.nil_append]
  repeat (first | refine GD ?_ | refine NW fun _ => ?_)
  refine ret1 rfl ⟨[ownS x.1 g.wait.length x.2 rcT 3 (g.wait.flatMap encCa)] ++ [rgateA b g.opened], ⟨_, ⟨_, _, rfl, rfl⟩, rfl⟩, ?_⟩
  refine Imp.trans (Imp.nilS rcT 3) (Imp.trans ?_ (Imp.trans (hback g.opened (none, 0) [ownS x.1 g.wait.length x.2 rcT 3 (g.wait.flatMap encCa), F]) II))
  exact II
def RThawG (b : Nat) (g : Gt) (round : Int) (v : Value) (M : List Assn) : Prop := match thawG g round with
  | .ok (l, g') => ∃ x E, RCallsA l x E ∧ v = .tuple #[x, .int .i64 0] ∧ M = E ++ [rgateA b g']
  | .error c => v = .tuple #[.slice none 0 0, .int .i64 c] ∧ M = [rgateA b g]
set_option maxHeartbeats 2000000 in
set_option maxRecDepth 10000 in
theorem rgthaw_ok (b : Nat) (g : Gt) (round : Int) : Triple G 74 [.pointer (some ⟨b, 0, none⟩), .int .i64 round] [rgateA b g] (RThawG b g round) := by
  refine Triple.enter Tryz.func74 rfl (by decide) rfl Tryz.ntmps74 rfl (fun F => ?_)
  refine WC.open (M := [F]) (Ls := rgateL b g) II (fun x => ?_)
  have hdef : thawG g round = if g.round = 0 ∨ g.round ≠ round then .error 9 else .ok (g.wait, g.opened) := rfl
  have hback := fun (N : List Assn) => rgateFold b g x (N := N)
  have hop := rgopen_ok b g
  unfold rgateL
  unfold gateC at *
  dsimp only [List.cons_append, List.nil_append]
  unfold RThawG
  by_cases h0 : g.round = 0
  · rw [if_pos (.inl h0)] at hdef
    repeat (first | refine GD ?_ | refine NW fun _ => ?_)
    exact ret2 rfl rfl ⟨[rgateA b g], by rw [hdef]; exact ⟨rfl, rfl⟩, Imp.trans II (hback [F])⟩
  by_cases h1 : g.round = round
  rotate_left
  · rw [if_pos (.inr h1)] at hdef
    repeat (first | refine GD ?_ | refine NW fun _ => ?_)
    exact ret2 rfl rfl ⟨[rgateA b g], by rw [hdef]; exact ⟨rfl, rfl⟩, Imp.trans II (hback [F])⟩
  rw [if_neg (fun h => by rcases h with h | h; exact h0 h; exact h h1)] at hdef
  repeat (first | refine GD ?_ | refine NW fun _ => ?_)
  refine WL.imp (M := [rgateA b g, F]) (Imp.trans II (hback [F])) ?_
  refine WL.step rfl (OP.call (pre := [rgateA b g]) rfl rfl hop PS rfl rfl ?_)
  rintro _ _ ⟨E, ⟨a, cap, rfl, rfl⟩, rfl⟩
  repeat (first | refine GD ?_ | refine NW fun _ => ?_)
  exact ret2 rfl rfl ⟨[ownS a g.wait.length cap rcT 3 (g.wait.flatMap encCa)] ++ [rgateA b g.opened], by rw [hdef]; exact ⟨_, _, ⟨a, cap, rfl, rfl⟩, rfl, rfl⟩, II⟩
set_option maxHeartbeats 2000000 in
set_option maxRecDepth 10000 in
theorem rgtick_ok (b : Nat) (g : Gt) (hl : 0 ≤ g.left ∧ g.left ≤ 6) : Triple G 77 [.pointer (some ⟨b, 0, none⟩)] [rgateA b g] (fun v M => ∃ E, RCallsA (tickG g).1 v E ∧ M = E ++ [rgateA b (tickG g).2]) := by
  refine Triple.enter Tryz.func77 rfl (by decide) rfl Tryz.ntmps77 rfl (fun F => ?_)
  refine WC.open (M := [F]) (Ls := rgateL b g) II (fun x => ?_)
  have hdef : tickG g = if g.round = 0 then ([], g) else if 0 < g.left - 1 then ([], { g with left := g.left - 1 }) else (g.wait, g.opened) := rfl
  have hback := fun (g' : Gt) (N : List Assn) => rgateFold b g' x (N := N)
  have hop := rgopen_ok b { g with left := g.left - 1 }
  unfold rgateL
  unfold gateC at *
  dsimp only [List.cons_append, List.nil_append] at hback ⊢
  by_cases h0 : g.round = 0
  · rw [hdef, if_pos h0]
    repeat (first | refine GD ?_ | refine NW fun _ => ?_)
    refine ret1 rfl ⟨[ownS none 0 0 rcT 3 (([] : List Call).flatMap encCa)] ++ [rgateA b g], ⟨_, ⟨_, _, rfl, rfl⟩, rfl⟩, ?_⟩
    exact Imp.trans (Imp.nilS rcT 3) (Imp.trans II (Imp.trans (hback g [ownS none 0 0 rcT 3 (([] : List Call).flatMap encCa), F]) II))
  rw [if_neg h0] at hdef
  by_cases h1 : 0 < g.left - 1
  · rw [hdef, if_pos h1]
    repeat (first | refine GD ?_ | refine NW fun _ => ?_)
    refine ret1 rfl ⟨[ownS none 0 0 rcT 3 (([] : List Call).flatMap encCa)] ++ [rgateA b { g with left := g.left - 1 }], ⟨_, ⟨_, _, rfl, rfl⟩, rfl⟩, ?_⟩
    exact Imp.trans (Imp.nilS rcT 3) (Imp.trans II (Imp.trans (hback { g with left := g.left - 1 } [ownS none 0 0 rcT 3 (([] : List Call).flatMap encCa), F]) II))
  · rw [hdef, if_neg h1]
    repeat (first | refine GD ?_ | refine NW fun _ => ?_)
    refine WL.imp (M := [rgateA b { g with left := g.left - 1 }, F]) (Imp.trans II (hback { g with left := g.left - 1 } [F])) ?_
    refine WL.step rfl (OP.call (pre := [rgateA b { g with left := g.left - 1 }]) rfl rfl hop PS rfl rfl ?_)
    rintro _ _ ⟨E, ⟨a, cap, rfl, rfl⟩, rfl⟩
    repeat (first | refine GD ?_ | refine NW fun _ => ?_)
    exact ret1 rfl ⟨[ownS a g.wait.length cap rcT 3 (g.wait.flatMap encCa)] ++ [rgateA b g.opened], ⟨_, ⟨a, cap, rfl, rfl⟩, rfl⟩, II⟩
def REnterG (b : Nat) (g : Gt) (c : Call) (v : Value) (M : List Assn) : Prop :=
  if g.round = 0 then v = .tuple #[.bool true, .int .i64 0] ∧ M = [rgateA b g]
  else if 4 ≤ g.wait.length then v = .tuple #[.bool false, .int .i64 7] ∧ M = [rgateA b g]
  else v = .tuple #[.bool false, .int .i64 0] ∧ M = [rgateA b { g with wait := g.wait ++ [c] }]
set_option maxHeartbeats 4000000 in
set_option maxRecDepth 10000 in
theorem rgenter_ok (b : Nat) (g : Gt) (c : Call) (h4' : g.wait.length ≤ 4) : Triple G 56 [.pointer (some ⟨b, 0, none⟩), .agg (encCa c).toArray] [rgateA b g] (REnterG b g c) := by
  refine Triple.enter Tryz.func56 rfl (by decide) rfl Tryz.ntmps56 rfl (fun F => ?_)
  refine WC.open (M := [F]) (Ls := rgateL b g) II (fun x => ?_)
  have hback := fun (g' : Gt) (x : Option Addr × Nat) (N : List Assn) => rgateFold b g' x (N := N)
  obtain ⟨id, block, data⟩ := c
  rw [show encCa (id, block, data) = [.int .i64 id, .int .i64 block, .string data] from rfl]
  unfold rgateL
  unfold gateC at *
  dsimp only [List.cons_append, List.nil_append]
  by_cases h0 : g.round = 0
  · repeat (first | refine GD ?_ | refine NW fun _ => ?_)
    exact ret2 rfl rfl ⟨[rgateA b g], by unfold REnterG; rw [if_pos h0]; exact ⟨rfl, rfl⟩, Imp.trans II (hback g x [F])⟩
  by_cases h4 : 4 ≤ g.wait.length
  · have h4e : (g.wait.length : Int) = 4 := by omega
    repeat (first | refine GD ?_ | refine NW fun _ => ?_)
    exact ret2 rfl rfl ⟨[rgateA b g], by unfold REnterG; rw [if_neg h0, if_pos h4]; exact ⟨rfl, rfl⟩, Imp.trans II (hback g x [F])⟩
  have h4e : ¬ (g.wait.length : Int) = 4 := by omega
  repeat (first | refine GD ?_ | refine NW fun _ => ?_)
  refine RD 12 13 (_) ?_
  refine WP 0 ?_
  refine WP 2 ?_
  refine WP 3 ?_
  refine WP 4 ?_
  refine VV 5 ?_
  refine VL 7 (.agg (encCa (id, block, data)).toArray) rfl rfl rfl rfl (.inr ⟨rfl, encCa (id, block, data), rfl, rfl, Ent.whole MM⟩) ?_
  refine WH.two 1 8 rfl rfl rfl rfl (by kernel_rfl) rfl rfl ?_ ?_
  · refine OP.lit0 (size := 3) rfl rfl rfl rfl rfl rfl (fun eb => ⟨fun _ => II, ?_⟩)
    refine WH.two 6 8 rfl rfl rfl rfl (by kernel_rfl) rfl rfl ?_ ?_
    · refine OP.append (cs := []) (ds := g.wait.flatMap encCa) rfl rfl rfl rfl rfl rfl rfl rfl rfl (show Imp _ (ownS (some ⟨eb, 0, none⟩) 0 0 rcT 3 [] :: _) from P1) (Ent.own (T := rcT) MM) (allOne_ca _) (by omega) (by omega) rfl rfl (fun a1 c1 => ⟨fun _ => II, ?_⟩)
      refine WH.only 8 rfl rfl (by kernel_rfl) rfl (OP.sliceLit (c := encCa (id, block, data)) rfl rfl rfl rfl rfl rfl rfl rfl (fun b2 => ⟨fun _ => II, ?_⟩))
      refine WH.only 9 rfl rfl (by kernel_rfl) rfl (OP.append (cs := [] ++ g.wait.flatMap encCa) (ds := encCa (id, block, data)) rfl rfl rfl rfl rfl rfl rfl rfl rfl (show Imp _ (ownS a1 (0 + g.wait.length) c1 rcT 3 ([] ++ g.wait.flatMap encCa) :: _) from P1) (Ent.own (T := rcT) MM) rfl (by omega) (by omega) rfl rfl (fun a2 c2 => ⟨fun _ => II, ?_⟩))
      refine WP 10 ?_
      refine WP 11 ?_
      refine WH.only 12 rfl rfl (by kernel_rfl) rfl (OP.store rfl rfl rfl rfl rfl rfl rfl UP rfl ⟨(fun h => nomatch h), ?_⟩)
      refine DN ?_
      rw [show 0 + g.wait.length = g.wait.length from Nat.zero_add _, List.nil_append]
      repeat (first | refine GD ?_ | refine NW fun _ => ?_)
      refine ret2 rfl rfl ⟨[rgateA b { g with wait := g.wait ++ [(id, block, data)] }], by unfold REnterG; rw [if_neg h0, if_neg h4]; exact ⟨rfl, rfl⟩, ?_⟩
      refine Imp.trans ?_ (hback { g with wait := g.wait ++ [(id, block, data)] } (a2, c2) [F])
      dsimp only
      rw [List.length_append, List.flatMap_append, List.flatMap_cons, List.flatMap_nil, List.append_nil]
      exact II
    · refine OP.sliceLit (c := encCa (id, block, data)) rfl rfl rfl rfl rfl rfl rfl rfl (fun b2 => ⟨fun _ => II, ?_⟩)
      refine WH.only 6 rfl rfl (by kernel_rfl) rfl (OP.append (cs := []) (ds := g.wait.flatMap encCa) rfl rfl rfl rfl rfl rfl rfl rfl rfl (show Imp _ (ownS (some ⟨eb, 0, none⟩) 0 0 rcT 3 [] :: _) from P1) (Ent.own (T := rcT) MM) (allOne_ca _) (by omega) (by omega) rfl rfl (fun a1 c1 => ⟨fun _ => II, ?_⟩))
      refine WH.only 9 rfl rfl (by kernel_rfl) rfl (OP.append (cs := [] ++ g.wait.flatMap encCa) (ds := encCa (id, block, data)) rfl rfl rfl rfl rfl rfl rfl rfl rfl (show Imp _ (ownS a1 (0 + g.wait.length) c1 rcT 3 ([] ++ g.wait.flatMap encCa) :: _) from P1) (Ent.own (T := rcT) MM) rfl (by omega) (by omega) rfl rfl (fun a2 c2 => ⟨fun _ => II, ?_⟩))
      refine WP 10 ?_
      refine WP 11 ?_
      refine WH.only 12 rfl rfl (by kernel_rfl) rfl (OP.store rfl rfl rfl rfl rfl rfl rfl UP rfl ⟨(fun h => nomatch h), ?_⟩)
      refine DN ?_
      rw [show 0 + g.wait.length = g.wait.length from Nat.zero_add _, List.nil_append]
      repeat (first | refine GD ?_ | refine NW fun _ => ?_)
      refine ret2 rfl rfl ⟨[rgateA b { g with wait := g.wait ++ [(id, block, data)] }], by unfold REnterG; rw [if_neg h0, if_neg h4]; exact ⟨rfl, rfl⟩, ?_⟩
      refine Imp.trans ?_ (hback { g with wait := g.wait ++ [(id, block, data)] } (a2, c2) [F])
      dsimp only
      rw [List.length_append, List.flatMap_append, List.flatMap_cons, List.flatMap_nil, List.append_nil]
      exact II
  · refine OP.sliceLit (c := encCa (id, block, data)) rfl rfl rfl rfl rfl rfl rfl rfl (fun b2 => ⟨fun _ => II, ?_⟩)
    refine WH.only 1 rfl rfl (by kernel_rfl) rfl (OP.lit0 (size := 3) rfl rfl rfl rfl rfl rfl (fun eb => ⟨fun _ => II, ?_⟩))
    refine WH.only 6 rfl rfl (by kernel_rfl) rfl (OP.append (cs := []) (ds := g.wait.flatMap encCa) rfl rfl rfl rfl rfl rfl rfl rfl rfl (show Imp _ (ownS (some ⟨eb, 0, none⟩) 0 0 rcT 3 [] :: _) from P1) (Ent.own (T := rcT) MM) (allOne_ca _) (by omega) (by omega) rfl rfl (fun a1 c1 => ⟨fun _ => II, ?_⟩))
    refine WH.only 9 rfl rfl (by kernel_rfl) rfl (OP.append (cs := [] ++ g.wait.flatMap encCa) (ds := encCa (id, block, data)) rfl rfl rfl rfl rfl rfl rfl rfl rfl (show Imp _ (ownS a1 (0 + g.wait.length) c1 rcT 3 ([] ++ g.wait.flatMap encCa) :: _) from P1) (Ent.own (T := rcT) MM) rfl (by omega) (by omega) rfl rfl (fun a2 c2 => ⟨fun _ => II, ?_⟩))
    refine WP 10 ?_
    refine WP 11 ?_
    refine WH.only 12 rfl rfl (by kernel_rfl) rfl (OP.store rfl rfl rfl rfl rfl rfl rfl UP rfl ⟨(fun h => nomatch h), ?_⟩)
    refine DN ?_
    rw [show 0 + g.wait.length = g.wait.length from Nat.zero_add _, List.nil_append]
    repeat (first | refine GD ?_ | refine NW fun _ => ?_)
    refine ret2 rfl rfl ⟨[rgateA b { g with wait := g.wait ++ [(id, block, data)] }], by unfold REnterG; rw [if_neg h0, if_neg h4]; exact ⟨rfl, rfl⟩, ?_⟩
    refine Imp.trans ?_ (hback { g with wait := g.wait ++ [(id, block, data)] } (a2, c2) [F])
    dsimp only
    rw [List.length_append, List.flatMap_append, List.flatMap_cons, List.flatMap_nil, List.append_nil]
    exact II
end Go.Proofs.YtanjfjiaheghcaaGreatDoor
/- Contracts of functions of the given program, and plain laws on what they compute: parts of the proofs of laws. -/

namespace Go.Proofs.YtanjfjiaheghcaaGreatDoor
open Go Go.GL

/-! the document's disk -/
def strC (s : List UInt8) : Value := .string (ba s)
def wrC (x : Nat × List UInt8) : List Value := [.int .i64 x.1, .string (ba x.2)]
def rdskL (p : Nat) (D : Dsk) (x : Option Addr × Nat × Option Addr × Nat) : List Assn :=
  [blk p [.slice x.1 D.S.length x.2.1, .slice x.2.2.1 D.W.length x.2.2.2] 89,
   ownS x.1 D.S.length x.2.1 9 1 (D.S.map strC),
   ownS x.2.2.1 D.W.length x.2.2.2 150 2 (D.W.flatMap wrC)]
def rdsk (p : Nat) (D : Dsk) : Assn := exA (rdskL p D)
theorem up_rdsk (p : Nat) (D : Dsk) : Up (rdsk p D) := up_exA _
theorem rdskFold (p : Nat) (D : Dsk) (x : Option Addr × Nat × Option Addr × Nat) {N : List Assn} : Imp
    (blk p [.slice x.1 D.S.length x.2.1, .slice x.2.2.1 D.W.length x.2.2.2] 89 ::
     ownS x.1 D.S.length x.2.1 9 1 (D.S.map strC) ::
     ownS x.2.2.1 D.W.length x.2.2.2 150 2 (D.W.flatMap wrC) :: N) (rdsk p D :: N) := Imp.fold (Ls := rdskL p D) x
theorem wrC_len (x : Nat × List UInt8) : (wrC x).length = 2 := rfl
theorem strC_get {l : List (List UInt8)} {k : Nat} (h : k < l.length) : (l.map strC)[k * 1]? = some (strC l[k]) := by simp [h]
theorem ba_zero : strCells (ba zero64) = repL [Value.int .u8 0] 64 := by rw [strCells_ba, repL_bytes]; rfl
set_option maxHeartbeats 1000000 in
set_option maxRecDepth 10000 in
theorem rdnew_rt (n : Int) (hn : -9223372036854775808 ≤ n ∧ n ≤ 9223372036854775807) : RT G 8 [.int .i64 n] (fun _ => True) (fun v E => ∃ p, v = .pointer (some ⟨p, 0, none⟩) ∧ E = [rdsk p (Dsk.new n)]) := by
  refine RT.enter Tryz.func8 rfl (by decide) rfl Tryz.ntmps8 rfl (fun A hu hA => ?_)
  have hd : Dsk.new n = ⟨List.replicate (max 0 (min n 1024)).toNat zero64, []⟩ := rfl
  rw [hd]
  repeat (first | refine GO ?_ | refine NW fun _ => ?_)
  rename_i p
  refine WC.imp (Imp.nilS 9 1) ?_
  refine WC.loop (σ := Nat × Option Addr × Nat) (fun s => s.1 ≤ (max 0 (min n 1024)).toNat)
    (fun s => [(0, .val (.int .i64 n)), (3, .val (.pointer (some ⟨p, 0, none⟩))), (4, .val (.int .i64 s.1))])
    (fun s => [blk p [.slice s.2.1 s.1 s.2.2, .slice none 0 0] 89, ownS s.2.1 s.1 s.2.2 9 1 ((List.replicate s.1 zero64).map strC), A]) (fun s => (max 0 (min n 1024)).toNat - s.1) (0, none, 0) (Nat.zero_le _) ⟨rfl, rfl, rfl, trivial⟩ II ?_
  rintro ⟨k, a, cap⟩ hk
  dsimp only at hk ⊢
  by_cases h1 : (k : Int) < n
  rotate_left
  · have he : (max 0 (min n 1024)).toNat = k := by omega
    rw [he]
    repeat (first | refine GD ?_ | refine NW fun _ => ?_)
    refine ret1 rfl ⟨_, ⟨p, rfl, rfl⟩, (Imp.nilS 150 2).trans (Imp.trans ?_ (rdskFold p _ (a, cap, none, 0)))⟩
    dsimp only
    rw [List.length_replicate]
    exact II
  by_cases h2 : (k : Int) < 1024
  rotate_left
  · have he : (max 0 (min n 1024)).toNat = k := by omega
    rw [he]
    repeat (first | refine GD ?_ | refine NW fun _ => ?_)
    refine ret1 rfl ⟨_, ⟨p, rfl, rfl⟩, (Imp.nilS 150 2).trans (Imp.trans ?_ (rdskFold p _ (a, cap, none, 0)))⟩
    dsimp only
    rw [List.length_replicate]
    exact II
  repeat (first | refine GD ?_ | refine NW fun _ => ?_)
  refine RD 8 12 (_) ?_
  refine WP 0 ?_
  refine WP 1 ?_
  refine WP 2 ?_
  refine WP 3 ?_
  refine VV 4 ?_
  refine WH.only 5 rfl rfl (by kernel_rfl) rfl (OP.makeS (z := [.int .u8 0]) rfl rfl rfl rfl rfl rfl rfl rfl (by decide) (by decide) (by decide) rfl rfl (fun b => ⟨fun _ => II, ?_⟩))
  refine WH.more _ II (Imp.refl _) ?_
  refine VQ 6 rfl (Quiet.toStr (sv := ba zero64) rfl rfl rfl rfl rfl rfl rfl rfl (by rw [ba_zero]; exact Ent.own (T := 5) MM)) ?_
  refine WH.only 7 rfl rfl (by kernel_rfl) rfl (OP.sliceLit (c := [strC zero64]) rfl rfl rfl rfl rfl rfl rfl rfl (fun b2 => ⟨fun _ => II, ?_⟩))
  refine WH.only 8 rfl rfl (by kernel_rfl) rfl (OP.append rfl rfl rfl rfl rfl rfl rfl rfl rfl P1 (Ent.own MM) rfl (by omega) (by omega) rfl rfl (fun a' cap' => ⟨(fun h => nomatch h), ?_⟩))
  refine WP 9 ?_
  refine WP 10 ?_
  refine WH.only 11 rfl rfl (by kernel_rfl) rfl (OP.store rfl rfl rfl rfl rfl rfl rfl UP rfl ⟨(fun h => nomatch h), ?_⟩)
  refine DN ?_
  repeat (first | refine GD ?_ | refine NW fun _ => ?_)
  refine ⟨(k + 1, a', cap'), by dsimp only; omega, by dsimp only; omega, ⟨rfl, rfl, rfl, trivial⟩, ?_⟩
  dsimp only
  rw [List.replicate_succ', List.map_append]
  exact II
def RWrPost (p : Nat) (D : Dsk) (i : Int) (l : List UInt8) (v : Value) (M : List Assn) : Prop :=
  if (0 ≤ i ∧ i < D.S.length) ∧ l.length = 64 then v = .int .i64 0 ∧ M = [rdsk p (D.put i.toNat l)]
  else v = .int .i64 (if 0 ≤ i ∧ i < D.S.length then 1 else 5) ∧ M = [rdsk p D]
set_option maxHeartbeats 1000000 in
set_option maxRecDepth 10000 in
theorem rdwrite_ok (p : Nat) (D : Dsk) (i : Int) (l : List UInt8) (hw : D.W.length < 1000000) :
    Triple G 65 [.pointer (some ⟨p, 0, none⟩), .int .i64 i, .string (ba l)] [rdsk p D] (RWrPost p D i l) := by
  refine Triple.enter Tryz.func65 rfl (by decide) rfl Tryz.ntmps65 rfl (fun F => ?_)
  refine WC.open P1 (fun x => ?_)
  unfold rdskL
  dsimp only [List.cons_append, List.nil_append]
  have hsz := ba_size l
  by_cases h0 : i < 0
  · have hi : ¬ (0 ≤ i ∧ i < D.S.length) := by omega
    repeat (first | refine GD ?_ | refine NW fun _ => ?_)
    refine ret1 rfl ⟨[rdsk p D], ?_, Imp.trans II (rdskFold p D x)⟩
    unfold RWrPost
    first
      | rw [if_neg (fun h => hi h.1), if_neg hi]; exact ⟨rfl, rfl⟩
      | rw [if_neg (fun h => h64 h.2), if_pos hi]; exact ⟨rfl, rfl⟩
  by_cases h1 : i < D.S.length
  rotate_left
  · have hi : ¬ (0 ≤ i ∧ i < D.S.length) := by omega
    repeat (first | refine GD ?_ | refine NW fun _ => ?_)
    refine ret1 rfl ⟨[rdsk p D], ?_, Imp.trans II (rdskFold p D x)⟩
    unfold RWrPost
    first
      | rw [if_neg (fun h => hi h.1), if_neg hi]; exact ⟨rfl, rfl⟩
      | rw [if_neg (fun h => h64 h.2), if_pos hi]; exact ⟨rfl, rfl⟩
  have hi : 0 ≤ i ∧ i < D.S.length := by omega
  by_cases h64 : l.length = 64
  rotate_left
  · have h64' : ¬ ((ba l).size : Int) = 64 := by omega
    repeat (first | refine GD ?_ | refine NW fun _ => ?_)
    refine ret1 rfl ⟨[rdsk p D], ?_, Imp.trans II (rdskFold p D x)⟩
    unfold RWrPost
    first
      | rw [if_neg (fun h => hi h.1), if_neg hi]; exact ⟨rfl, rfl⟩
      | rw [if_neg (fun h => h64 h.2), if_pos hi]; exact ⟨rfl, rfl⟩
  have h64' : ((ba l).size : Int) = 64 := by omega
  have hii : (i.toNat : Int) = i := by omega
  repeat (first | refine GD ?_ | refine NW fun _ => ?_)
  have hwr : wrC (i.toNat, l) = [.int .i64 i, .string (ba l)] := by unfold wrC; rw [hii]
  refine WL.step rfl (OP.append (ds := [.int .i64 i, .string (ba l)]) rfl rfl rfl rfl rfl rfl rfl rfl rfl P1 (Ent.own MM) rfl (by omega) (by omega) rfl rfl (fun a' cap' => ?_))
  repeat (first | refine GD ?_ | refine NW fun _ => ?_)
  refine ret1 rfl ⟨[rdsk p (D.put i.toNat l)], ?_, ?_⟩
  · unfold RWrPost
    rw [if_pos ⟨hi, h64⟩]
    exact ⟨rfl, rfl⟩
  · refine Imp.trans ?_ (rdskFold p (D.put i.toNat l) (x.1, x.2.1, a', cap'))
    unfold Dsk.put
    dsimp only
    rw [List.length_append, List.flatMap_append, List.flatMap_cons, List.flatMap_nil, List.append_nil, hwr]
    exact II
def RRdV (D : Dsk) (i : Int) : Value := if 0 ≤ i ∧ i < D.S.length then .tuple #[.string (ba (D.cur i.toNat)), .int .i64 0] else .tuple #[.string ⟨#[]⟩, .int .i64 5]
theorem cur_def4 (D : Dsk) (i : Nat) : D.cur i = curF i (D.S.getD i []) D.W := rfl
set_option maxHeartbeats 1000000 in
set_option maxRecDepth 10000 in
theorem rdread_ro (p : Nat) (D : Dsk) (i : Int) (hw : D.W.length < 1000000) : RO G 41 [.pointer (some ⟨p, 0, none⟩), .int .i64 i] (rdsk p D) (RRdV D i) := by
  refine RO.enterEx Tryz.func41 rfl (by decide) rfl Tryz.ntmps41 rfl (fun y A hu hA => ?_)
  have hF : ∀ {L}, A ∈ L → Ent L (cellsAt p 0 [.slice y.1 D.S.length y.2.1, .slice y.2.2.1 D.W.length y.2.2.2]) := fun m => Ent.of hu hA m (Ent.whole (List.Mem.head _))
  have hS : ∀ {L}, A ∈ L → Ent L (readS y.1 D.S.length 1 (D.S.map strC)) := fun m => Ent.of hu hA m (Ent.own (List.Mem.tail _ (List.Mem.head _)))
  have hW : ∀ {L}, A ∈ L → Ent L (readS y.2.2.1 D.W.length 2 (D.W.flatMap wrC)) := fun m => Ent.of hu hA m (Ent.own (List.Mem.tail _ (List.Mem.tail _ (List.Mem.head _))))
  unfold RRdV
  by_cases h0 : i < 0
  · rw [if_neg (by omega)]
    repeat (first | refine GD ?_ | refine NW fun _ => ?_)
    exact ret2 rfl rfl ⟨rfl, MM⟩
  repeat (first | refine GD ?_ | refine NW fun _ => ?_)
  refine WL.guardT rfl rfl rfl rfl (OP.load1 (v := .slice y.1 D.S.length y.2.1) rfl rfl rfl rfl (Ent.one (i := 0) (hF MM) rfl) rfl rfl ?_)
  by_cases h1 : i < D.S.length
  rotate_left
  · rw [if_neg (by omega)]
    repeat (first | refine GD ?_ | refine NW fun _ => ?_)
    exact ret2 rfl rfl ⟨rfl, MM⟩
  rw [if_pos (by omega)]
  obtain ⟨k, rfl⟩ : ∃ k : Nat, i = k := ⟨i.toNat, by omega⟩
  have hk : k < D.S.length := by omega
  rw [Int.toNat_natCast]
  repeat (first | refine GD ?_ | refine NW fun _ => ?_)
  refine WL.step rfl (OP.load1 (v := .slice y.1 D.S.length y.2.1) rfl rfl rfl rfl (Ent.one (i := 0) (hF MM) rfl) rfl rfl ?_)
  refine WL.fact (Ent.some (hS MM) (by omega)) ?_
  rintro ⟨bs, off, hys⟩
  rw [hys]
  rw [hys] at hS
  repeat (first | refine GD ?_ | refine NW fun _ => ?_)
  refine WL.step rfl (OP.load1 (v := strC D.S[k]) rfl rfl rfl rfl (Ent.elem (hS MM) rfl (strC_get hk)) rfl rfl ?_)
  repeat (first | refine GD ?_ | refine NW fun _ => ?_)
  refine WL.step rfl (OP.load1 (v := .slice y.2.2.1 D.W.length y.2.2.2) rfl rfl rfl rfl (Ent.one (i := 1) (hF MM) rfl) rfl rfl ?_)
  repeat (first | refine GD ?_ | refine NW fun _ => ?_)
  refine WC.loop (σ := Nat) (fun j => j ≤ D.W.length)
    (fun j => [(0, .val (.pointer (some ⟨p, 0, none⟩))), (1, .val (.int .i64 k)), (6, .val (strC (curF k D.S[k] (D.W.take j)))), (30, .val (.int .i64 D.W.length)), (31, .val (.int .i64 j))])
    (fun j => [A]) (fun j => D.W.length - j) 0 (Nat.zero_le _) ⟨rfl, rfl, rfl, rfl, rfl, trivial⟩ (Imp.refl _) ?_
  rintro j hj
  by_cases hlt : j < D.W.length
  rotate_left
  · have hje : j = D.W.length := by omega
    subst hje
    rw [List.take_length]
    have hcur : D.cur k = curF k D.S[k] D.W := by rw [cur_def4, List.getD_eq_getElem?_getD, List.getElem?_eq_getElem hk]; rfl
    repeat (first | refine GD ?_ | refine NW fun _ => ?_)
    refine ret2 rfl rfl ⟨?_, MM⟩
    rw [hcur]
    rfl
  have hsn : curF k D.S[k] (D.W.take (j + 1)) = if (D.W[j]).1 = k then (D.W[j]).2 else curF k D.S[k] (D.W.take j) := by
    rw [← List.take_append_getElem hlt, curF_snoc]
  refine WC.fact (Ent.some (hW MM) (by omega)) ?_
  rintro ⟨bw, offw, hyw⟩
  rw [hyw] at hW
  have hel : ∀ {L} (i : Nat) (v : Value), Nat.blt i 2 = true → (wrC D.W[j])[i]? = some v → A ∈ L → Ent L (cellAt bw (offw + j * 2 + i) v) := fun i v hi hv m => Ent.elF wrC_len (hW m) hlt hi hv
  generalize D.W[j] = e at *
  obtain ⟨ei, eb⟩ := e
  dsimp only at hsn
  repeat (first | refine GD ?_ | refine NW fun _ => ?_)
  refine WL.step rfl (OP.load1 (v := .slice (some ⟨bw, offw, none⟩) D.W.length y.2.2.2) rfl rfl rfl rfl (by rw [← hyw]; exact Ent.one (i := 1) (hF MM) rfl) rfl rfl ?_)
  repeat (first | refine GD ?_ | refine NW fun _ => ?_)
  refine WL.step rfl (OP.load1 (v := .int .i64 ei) rfl rfl rfl rfl (hel 0 _ rfl rfl MM) rfl rfl ?_)
  by_cases hek : ei = k
  · rw [if_pos hek] at hsn
    subst hek
    repeat (first | refine GD ?_ | refine NW fun _ => ?_)
    refine WL.step rfl (OP.load1 (v := .slice (some ⟨bw, offw, none⟩) D.W.length y.2.2.2) rfl rfl rfl rfl (by rw [← hyw]; exact Ent.one (i := 1) (hF MM) rfl) rfl rfl ?_)
    repeat (first | refine GD ?_ | refine NW fun _ => ?_)
    refine WL.step rfl (OP.load1 (v := .string (ba eb)) rfl rfl rfl rfl (hel 1 _ rfl rfl MM) rfl rfl ?_)
    repeat (first | refine GD ?_ | refine NW fun _ => ?_)
    exact ⟨j + 1, by omega, by omega, ⟨rfl, rfl, by rw [hsn]; rfl, rfl, rfl, trivial⟩, II⟩
  · rw [if_neg hek] at hsn
    have hne : ¬ (ei : Int) = k := by omega
    repeat (first | refine GD ?_ | refine NW fun _ => ?_)
    exact ⟨j + 1, by omega, by omega, ⟨rfl, rfl, by rw [hsn]; rfl, rfl, rfl, trivial⟩, II⟩
end Go.Proofs.YtanjfjiaheghcaaGreatDoor
/- Contracts of functions of the given program, and plain laws on what they compute: parts of the proofs of laws. -/

namespace Go.Proofs.YtanjfjiaheghcaaGreatDoor
open Go Go.GL

theorem strC_set {R : List (List UInt8)} {k : Nat} (eb : List UInt8) (h : k < R.length) : setMany (R.map strC) (k * 1) [strC eb] = some ((R.set k eb).map strC) := by
  rw [Nat.mul_one]
  unfold setMany
  rw [setOne_lt _ (by simpa using h)]
  simp only [setMany]
  rw [List.map_set]
set_option maxHeartbeats 2000000 in
set_option maxRecDepth 10000 in
theorem rdflush_ok (p : Nat) (D : Dsk) (hD : D.ok) (hw : D.W.length < 1000000) : Triple G 67 [.pointer (some ⟨p, 0, none⟩)] [rdsk p D] (fun v M => v = .tuple #[] ∧ M = [rdsk p D.flush]) := by
  refine Triple.enter Tryz.func67 rfl (by decide) rfl Tryz.ntmps67 rfl (fun F => ?_)
  have hfl : D.flush = D.settle (fun _ => true) := rfl
  rw [hfl]
  refine WC.open P1 (fun y => ?_)
  unfold rdskL
  dsimp only [List.cons_append, List.nil_append]
  repeat (first | refine GO ?_ | refine NW fun _ => ?_)
  refine WC.loop (σ := Nat) (fun j => j ≤ D.W.length)
    (fun j => [(0, .val (.pointer (some ⟨p, 0, none⟩))), (7, .val (.int .i64 D.W.length)), (8, .val (.int .i64 j))])
    (fun j => [blk p [.slice y.1 D.S.length y.2.1, .slice y.2.2.1 D.W.length y.2.2.2] 89,
      ownS y.1 D.S.length y.2.1 9 1 ((settleF (fun _ => true) 0 (D.W.take j) D.S).map strC), ownS y.2.2.1 D.W.length y.2.2.2 150 2 (D.W.flatMap wrC), F]) (fun j => D.W.length - j) 0 (Nat.zero_le _) ⟨rfl, rfl, rfl, trivial⟩ II ?_
  rintro j hj
  by_cases hlt : j < D.W.length
  rotate_left
  · have hje : j = D.W.length := by omega
    subst hje
    rw [List.take_length]
    repeat (first | refine GD ?_ | refine NW fun _ => ?_)
    refine ret0n ⟨_, ⟨rfl, rfl⟩, (Imp.nilS 150 2).trans (Imp.trans ?_ (rdskFold p (D.settle (fun _ => true)) (y.1, y.2.1, none, 0)))⟩
    unfold Dsk.settle
    dsimp only
    rw [settleF_length]
    exact II
  have hsn := settleF_succ (fun _ => true) D.W D.S j hlt
  obtain ⟨hx1, hx2⟩ := hD.w64 _ (List.getElem_mem hlt)
  have hRl := settleF_length (fun _ => true) (D.W.take j) 0 D.S
  generalize settleF (fun _ => true) 0 (D.W.take j) D.S = R at *
  refine WC.fact (Ent.some (Ent.own (a := y.2.2.1) (n := D.W.length) (cap := y.2.2.2) (T := 150) (size := 2) (cs := D.W.flatMap wrC) MM) (by omega)) ?_
  rintro ⟨bw, offw, hyw⟩
  refine WC.fact (Ent.some (Ent.own (a := y.1) (n := D.S.length) (cap := y.2.1) (T := 9) (size := 1) (cs := R.map strC) MM) (by omega)) ?_
  rintro ⟨bs, offs, hys⟩
  rw [hyw, hys]
  have hel : ∀ {L} (i : Nat) (v : Value), Nat.blt i 2 = true → (wrC D.W[j])[i]? = some v → ownS (some ⟨bw, offw, none⟩) D.W.length y.2.2.2 150 2 (D.W.flatMap wrC) ∈ L → Ent L (cellAt bw (offw + j * 2 + i) v) := fun i v hi hv m => Ent.elF wrC_len (Ent.own m) hlt hi hv
  generalize D.W[j] = e at *
  obtain ⟨ei, eb⟩ := e
  dsimp only at hsn hx1 hx2
  rw [if_pos rfl] at hsn
  repeat (first | refine GD ?_ | refine NW fun _ => ?_)
  refine RD 21 22 (_) ?_
  refine WP 0 ?_
  refine WP 1 ?_
  refine WP 2 ?_
  refine VV 3 ?_
  refine WP 4 ?_
  refine WP 5 ?_
  refine WP 6 ?_
  refine VV 7 ?_
  refine WP 8 ?_
  refine WP 9 ?_
  refine WP 10 ?_
  refine VL 11 (.int .i64 ei) rfl rfl rfl rfl (.inl ⟨rfl, hel 0 _ rfl rfl MM⟩) ?_
  refine WP 12 ?_
  refine WP 13 ?_
  refine WP 14 ?_
  refine VV 15 ?_
  refine WP 16 ?_
  refine WP 17 ?_
  refine WP 18 ?_
  refine VL 19 (.string (ba eb)) rfl rfl rfl rfl (.inl ⟨rfl, hel 1 _ rfl rfl MM⟩) ?_
  refine WP 20 ?_
  refine WH.only 21 rfl rfl (by kernel_rfl) rfl (OP.storeO (vs := [strC eb]) (i := ei * 1) rfl rfl rfl rfl rfl rfl rfl P1 (strC_set eb (by omega)) rfl ⟨(fun h => nomatch h), ?_⟩)
  refine DN ?_
  repeat (first | refine GD ?_ | refine NW fun _ => ?_)
  exact ⟨j + 1, by omega, by omega, ⟨rfl, rfl, rfl, trivial⟩, by rw [hsn]; exact II⟩
theorem rbit_u64 {t : Int} (h : 0 ≤ t ∧ t ≤ 18446744073709551615) {i : Nat} (hi : i < 64) : (shrV .u64 t (i : Int) % 2 = 1) ↔ t.toNat.testBit i = true := by
  obtain ⟨n, rfl⟩ : ∃ n : Nat, t = n := ⟨t.toNat, by omega⟩
  have e : shrV .u64 (n : Int) (i : Int) = ((n / 2 ^ i : Nat) : Int) := by
    unfold shrV
    rw [Int.toNat_natCast, Nat.min_eq_left (by show i ≤ 64; omega), Int.fdiv_eq_ediv_of_nonneg _ (by exact Int.pow_nonneg (by decide)), Int.natCast_ediv, Int.natCast_pow]; rfl
  rw [e, Int.toNat_natCast, Nat.testBit_eq_decide_div_mod_eq, decide_eq_true_eq]
  omega
theorem shr_nn {t : Int} (h : 0 ≤ t) (i : Int) : 0 ≤ shrV .u64 t i := by
  unfold shrV
  rw [Int.fdiv_eq_ediv_of_nonneg _ (by exact Int.pow_nonneg (by decide))]
  exact Int.ediv_nonneg h (by exact Int.pow_nonneg (by decide))
set_option maxHeartbeats 2000000 in
set_option maxRecDepth 10000 in
theorem rdcrash_ok (p : Nat) (D : Dsk) (keep : Int) (hk : 0 ≤ keep ∧ keep < 18446744073709551616) (hD : D.ok) (hw : D.W.length < 1000000) : Triple G 83 [.pointer (some ⟨p, 0, none⟩), .int .u64 keep] [rdsk p D] (fun v M => v = .tuple #[] ∧ M = [rdsk p (D.crash keep)]) := by
  refine Triple.enter Tryz.func83 rfl (by decide) rfl Tryz.ntmps83 rfl (fun F => ?_)
  have hfl : D.crash keep = D.settle (keeps keep) := rfl
  rw [hfl]
  refine WC.open P1 (fun y => ?_)
  unfold rdskL
  dsimp only [List.cons_append, List.nil_append]
  repeat (first | refine GO ?_ | refine NW fun _ => ?_)
  refine WC.loop (σ := Nat) (fun j => j ≤ D.W.length)
    (fun j => [(0, .val (.pointer (some ⟨p, 0, none⟩))), (1, .val (.int .u64 keep)), (9, .val (.int .i64 D.W.length)), (10, .val (.int .i64 j))])
    (fun j => [blk p [.slice y.1 D.S.length y.2.1, .slice y.2.2.1 D.W.length y.2.2.2] 89,
      ownS y.1 D.S.length y.2.1 9 1 ((settleF (keeps keep) 0 (D.W.take j) D.S).map strC), ownS y.2.2.1 D.W.length y.2.2.2 150 2 (D.W.flatMap wrC), F]) (fun j => D.W.length - j) 0 (Nat.zero_le _) ⟨rfl, rfl, rfl, rfl, trivial⟩ II ?_
  rintro j hj
  by_cases hlt : j < D.W.length
  rotate_left
  · have hje : j = D.W.length := by omega
    subst hje
    rw [List.take_length]
    repeat (first | refine GD ?_ | refine NW fun _ => ?_)
    refine ret0n ⟨_, ⟨rfl, rfl⟩, (Imp.nilS 150 2).trans (Imp.trans ?_ (rdskFold p (D.settle (keeps keep)) (y.1, y.2.1, none, 0)))⟩
    unfold Dsk.settle
    dsimp only
    rw [settleF_length]
    exact II
  have hsn := settleF_succ (keeps keep) D.W D.S j hlt
  obtain ⟨hx1, hx2⟩ := hD.w64 _ (List.getElem_mem hlt)
  have hRl := settleF_length (keeps keep) (D.W.take j) 0 D.S
  generalize settleF (keeps keep) 0 (D.W.take j) D.S = R at *
  refine WC.fact (Ent.some (Ent.own (a := y.2.2.1) (n := D.W.length) (cap := y.2.2.2) (T := 150) (size := 2) (cs := D.W.flatMap wrC) MM) (by omega)) ?_
  rintro ⟨bw, offw, hyw⟩
  refine WC.fact (Ent.some (Ent.own (a := y.1) (n := D.S.length) (cap := y.2.1) (T := 9) (size := 1) (cs := R.map strC) MM) (by omega)) ?_
  rintro ⟨bs, offs, hys⟩
  rw [hyw, hys]
  have hel : ∀ {L} (i : Nat) (v : Value), Nat.blt i 2 = true → (wrC D.W[j])[i]? = some v → ownS (some ⟨bw, offw, none⟩) D.W.length y.2.2.2 150 2 (D.W.flatMap wrC) ∈ L → Ent L (cellAt bw (offw + j * 2 + i) v) := fun i v hi hv m => Ent.elF wrC_len (Ent.own m) hlt hi hv
  generalize D.W[j] = e at *
  obtain ⟨ei, eb⟩ := e
  dsimp only at hsn hx1 hx2
  have hb := rbit_u64 (t := keep) (by omega) (show j % 64 < 64 by omega)
  have hj64 : ((j : Int) % 64) = ((j % 64 : Nat) : Int) := by omega
  rw [← hj64] at hb
  have hs0 := shr_nn hk.1 ((j : Int) % 64)
  cases hkj : keeps keep j
  · rw [hkj, if_neg (by simp)] at hsn
    have hb' : ¬ shrV .u64 keep ((j : Int) % 64) % 2 = 1 := fun h => by
      have := hb.1 h
      unfold keeps at hkj
      rw [this] at hkj; cases hkj
    repeat (first | refine GD ?_ | refine NW fun _ => ?_)
    exact ⟨j + 1, by omega, by omega, ⟨rfl, rfl, rfl, rfl, trivial⟩, by rw [hsn]; exact II⟩
  · rw [hkj, if_pos rfl] at hsn
    have hb' : shrV .u64 keep ((j : Int) % 64) % 2 = 1 := hb.2 hkj
    repeat (first | refine GD ?_ | refine NW fun _ => ?_)
    refine RD 21 22 (_) ?_
    refine WP 0 ?_
    refine WP 1 ?_
    refine WP 2 ?_
    refine VV 3 ?_
    refine WP 4 ?_
    refine WP 5 ?_
    refine WP 6 ?_
    refine VV 7 ?_
    refine WP 8 ?_
    refine WP 9 ?_
    refine WP 10 ?_
    refine VL 11 (.int .i64 ei) rfl rfl rfl rfl (.inl ⟨rfl, hel 0 _ rfl rfl MM⟩) ?_
    refine WP 12 ?_
    refine WP 13 ?_
    refine WP 14 ?_
    refine VV 15 ?_
    refine WP 16 ?_
    refine WP 17 ?_
    refine WP 18 ?_
    refine VL 19 (.string (ba eb)) rfl rfl rfl rfl (.inl ⟨rfl, hel 1 _ rfl rfl MM⟩) ?_
    refine WP 20 ?_
    refine WH.only 21 rfl rfl (by kernel_rfl) rfl (OP.storeO (vs := [strC eb]) (i := ei * 1) rfl rfl rfl rfl rfl rfl rfl P1 (strC_set eb (by omega)) rfl ⟨(fun h => nomatch h), ?_⟩)
    refine DN ?_
    repeat (first | refine GD ?_ | refine NW fun _ => ?_)
    exact ⟨j + 1, by omega, by omega, ⟨rfl, rfl, rfl, rfl, trivial⟩, by rw [hsn]; exact II⟩
end Go.Proofs.YtanjfjiaheghcaaGreatDoor
/- Contracts of functions of the given program, and plain laws on what they compute: parts of the proofs of laws. -/

namespace Go.Proofs.YtanjfjiaheghcaaGreatDoor
open Go Go.GL

theorem ba_app (l m : List UInt8) : ba l ++ ba m = ba (l ++ m) := by
  apply ByteArray.ext
  simp [ba]
theorem ba_appD (l : List UInt8) (s : ByteArray) : ba l ++ s = ba (l ++ s.data.toList) := by rw [← ba_app, ba_data]
/-- one bit of the check, bit by bit -/
def bitS (c : W32) : W32 := (c >>> 1) ^^^ (bif c.getLsbD 0 then 2197175160#32 else 0#32)
theorem bitS_xor (a b : W32) : bitS (a ^^^ b) = bitS a ^^^ bitS b := by
  unfold bitS
  rw [BitVec.ushiftRight_xor_distrib, BitVec.getLsbD_xor]
  generalize a >>> 1 = x
  generalize b >>> 1 = y
  cases a.getLsbD 0 <;> cases b.getLsbD 0
  · simp
  · simp only [Bool.false_bne, cond_true, cond_false, BitVec.xor_zero]; ac_rfl
  · simp only [Bool.bne_false, cond_true, cond_false, BitVec.xor_zero]; ac_rfl
  · show x ^^^ y ^^^ 0#32 = _
    rw [BitVec.xor_zero]
    show x ^^^ y = x ^^^ 2197175160#32 ^^^ (y ^^^ 2197175160#32)
    rw [show x ^^^ 2197175160#32 ^^^ (y ^^^ 2197175160#32) = x ^^^ y ^^^ (2197175160#32 ^^^ 2197175160#32) by ac_rfl, BitVec.xor_self, BitVec.xor_zero]
theorem bitS_even (c : W32) (h : c.getLsbD 0 = false) : bitS c = c >>> 1 := by unfold bitS; rw [h]; simp
def bits4 (c : W32) : W32 := bitS (bitS (bitS (bitS c)))
theorem bits4_xor (a b : W32) : bits4 (a ^^^ b) = bits4 a ^^^ bits4 b := by unfold bits4; simp only [bitS_xor]
theorem low_shr (c : W32) (n k : Nat) (h : c.getLsbD (n + k) = false) : (c >>> n).getLsbD k = false := by rw [BitVec.getLsbD_ushiftRight]; exact h
theorem bits4_hi (c : W32) (h : ∀ i, i < 4 → c.getLsbD i = false) : bits4 c = c >>> 4 := by
  unfold bits4
  rw [bitS_even c (h 0 (by decide)), bitS_even (c >>> 1) (low_shr c 1 0 (h 1 (by decide))), ← BitVec.shiftRight_add, bitS_even (c >>> (1 + 1)) (low_shr c 2 0 (h 2 (by decide))), ← BitVec.shiftRight_add,
    bitS_even (c >>> (1 + 1 + 1)) (low_shr c 3 0 (h 3 (by decide))), ← BitVec.shiftRight_add]
set_option maxRecDepth 10000 in
theorem bits4_low : ∀ k : Fin 16, bits4 (BitVec.ofNat 32 k.val) = tbl.getD k.val 0 := by decide
theorem low4 : ∀ i, i < 32 → (15#32 : W32).getLsbD i = decide (i < 4) := by decide
theorem half_bits (c : W32) : half c = bits4 c := by
  have e : c = (c &&& ~~~15#32) ^^^ (c &&& 15#32) := by
    apply BitVec.eq_of_getLsbD_eq
    intro i hi
    simp only [BitVec.getLsbD_xor, BitVec.getLsbD_and, BitVec.getLsbD_not, hi, low4 i hi]
    cases c.getLsbD i <;> cases decide (i < 4) <;> rfl
  have hlow : (c &&& 15#32).toNat < 16 := by rw [BitVec.toNat_and]; exact Nat.lt_of_le_of_lt Nat.and_le_right (by decide)
  have e1 : bits4 (c &&& 15#32) = tbl.getD (c &&& 15#32).toNat 0 := by
    have := bits4_low ⟨(c &&& 15#32).toNat, hlow⟩
    simp only [BitVec.ofNat_toNat, BitVec.setWidth_eq] at this
    exact this
  have e2 : bits4 (c &&& ~~~15#32) = c >>> 4 := by
    rw [bits4_hi]
    · apply BitVec.eq_of_getLsbD_eq
      intro i hi
      simp only [BitVec.getLsbD_ushiftRight, BitVec.getLsbD_and, BitVec.getLsbD_not]
      by_cases h : 4 + i < 32
      · rw [low4 (4 + i) h, decide_eq_false (show ¬ 4 + i < 4 by omega), decide_eq_true h]
        simp
      · rw [BitVec.getLsbD_of_ge _ _ (show 32 ≤ 4 + i by omega)]
        simp
    · intro i hi
      simp only [BitVec.getLsbD_and, BitVec.getLsbD_not, low4 i (by omega)]
      simp [hi]
  conv => rhs; rw [e, bits4_xor, e1, e2]
  rfl
/-- so many bits of the check -/
def bitN : Nat → W32 → W32
  | 0, c => c
  | n + 1, c => bitS (bitN n c)
theorem bit8 (c : W32) : bitN 8 c = half (half c) := by rw [half_bits, half_bits]; rfl
theorem bitS_int (c : W32) : ((bitS c).toNat : Int) = if (c.toNat : Int) % 2 = 1 then bitsV .xor .u32 ((c.toNat : Int) / 2) 2197175160 else (c.toNat : Int) / 2 := by
  have h1 : (c.toNat : Int) / (2 : Int) = ((c >>> 1).toNat : Int) := by rw [BitVec.toNat_ushiftRight, Nat.shiftRight_eq_div_pow]; omega
  have h2 := xor_u32 (c >>> 1) 2197175160#32
  rw [show (((2197175160#32 : W32).toNat : Nat) : Int) = 2197175160 from rfl] at h2
  rw [h1, h2]
  have h3 : c.getLsbD 0 = decide (c.toNat % 2 = 1) := by rw [← BitVec.testBit_toNat, Nat.testBit_zero]
  unfold bitS
  rw [h3]
  by_cases h : c.toNat % 2 = 1
  · rw [if_pos (by omega), decide_eq_true h]; rfl
  · rw [if_neg (by omega), decide_eq_false h]; simp
theorem byteAt_ba (l : List UInt8) (k : Nat) (h : k < l.length) : byteAt (ba l) k = (l[k].toNat : Int) := by
  unfold byteAt ba
  simp [h]

set_option maxHeartbeats 2000000 in
set_option maxRecDepth 10000 in
theorem qof_ro (l : List UInt8) (hs : l.length < 1000000) : RO G 158 [.string (ba l)] (fun _ => True) (u32V (crc l)) := by
  refine RO.enter Tryz.func158 rfl (by decide) rfl Tryz.ntmps158 rfl (fun A hu hA => ?_) (fun _ _ _ h => h)
  have hsz := ba_size l
  repeat (first | refine GO ?_ | refine NW fun _ => ?_)
  refine WC.loop (σ := Nat) (fun k => k ≤ l.length)
    (fun k => [(0, .val (.string (ba l))), (3, .val (.int .u32 ((crcF (BitVec.allOnes 32) (l.take k)).toNat : Int))), (4, .val (.int .i64 k))])
    (fun k => [A]) (fun k => l.length - k) 0 (Nat.zero_le _) ⟨rfl, rfl, rfl, trivial⟩ (Imp.refl _) ?_
  rintro k hk
  by_cases hlt : k < l.length
  rotate_left
  · have : l.take k = l := List.take_of_length_le (by omega)
    rw [this]
    have hn : (4294967295 : Int) - ((crcF (BitVec.allOnes 32) l).toNat : Int) = ((crc l).toNat : Int) := by
      unfold crc
      rw [BitVec.toNat_not]
      have := (crcF (BitVec.allOnes 32) l).isLt
      omega
    have hlt32 := (crcF (BitVec.allOnes 32) l).isLt
    generalize crcF (BitVec.allOnes 32) l = c at *
    repeat (first | refine GD ?_ | refine NW fun _ => ?_)
    rw [hn]
    exact ret1 rfl ⟨rfl, MM⟩
  have hsn : crcF (BitVec.allOnes 32) (l.take (k + 1)) = crcStep (crcF (BitVec.allOnes 32) (l.take k)) l[k] := by
    unfold crcF
    rw [List.take_succ_eq_append_getElem hlt, List.foldl_append]
    rfl
  have hby := byteAt_ba l k hlt
  generalize l[k] = x at *
  have hx8 : x.toNat < 256 := x.toNat_lt
  generalize crcF (BitVec.allOnes 32) (l.take k) = c at *
  have hby0 : 0 ≤ byteAt (ba l) k := by omega
  have hby1 : byteAt (ba l) k < 256 := by omega
  repeat (first | refine GD ?_ | refine NW fun _ => ?_)
  have hx := xor_u32 c (BitVec.ofNat 32 x.toNat)
  have hb : ((BitVec.ofNat 32 x.toNat).toNat : Int) = x.toNat := by rw [BitVec.toNat_ofNat]; omega
  rw [hb] at hx
  rw [hby, hx]
  refine WC.loop (σ := Nat) (fun j => j ≤ 8)
    (fun j => [(0, .val (.string (ba l))), (3, .val (.int .u32 ((bitN j (c ^^^ BitVec.ofNat 32 x.toNat)).toNat : Int))), (4, .val (.int .i64 k)), (5, .val (.int .i64 j))])
    (fun _ => [A]) (fun j => 8 - j) 0 (Nat.zero_le _) ⟨rfl, rfl, rfl, rfl, trivial⟩ (Imp.refl _) ?_
  rintro j hj
  by_cases hlt8 : j < 8
  rotate_left
  · have hj8 : j = 8 := by omega
    subst hj8
    rw [bit8]
    repeat (first | refine GD ?_ | refine NW fun _ => ?_)
    exact ⟨k + 1, by omega, by omega, ⟨rfl, by rw [hsn]; rfl, rfl, trivial⟩, Imp.refl _⟩
  have hbi := bitS_int (bitN j (c ^^^ BitVec.ofNat 32 x.toNat))
  have hbn : bitN (j + 1) (c ^^^ BitVec.ofNat 32 x.toNat) = bitS (bitN j (c ^^^ BitVec.ofNat 32 x.toNat)) := rfl
  rw [← hbn] at hbi
  have hlt32 := (bitN j (c ^^^ BitVec.ofNat 32 x.toNat)).isLt
  generalize bitN j (c ^^^ BitVec.ofNat 32 x.toNat) = d at *
  by_cases hodd : (d.toNat : Int) % 2 = 1
  · rw [if_pos hodd] at hbi
    repeat (first | refine GD ?_ | refine NW fun _ => ?_)
    exact ⟨j + 1, by omega, by omega, ⟨rfl, by rw [hbi]; rfl, rfl, rfl, trivial⟩, Imp.refl _⟩
  · rw [if_neg hodd] at hbi
    repeat (first | refine GD ?_ | refine NW fun _ => ?_)
    exact ⟨j + 1, by omega, by omega, ⟨rfl, by rw [hbi]; rfl, rfl, rfl, trivial⟩, Imp.refl _⟩
set_option maxHeartbeats 1000000 in
set_option maxRecDepth 10000 in
theorem qseal_ro (l : List UInt8) (hs : l.length < 100000) : RO G 133 [.string (ba l)] (fun _ => True) (.string (ba (l ++ tailM l))) := by
  refine RO.enter Tryz.func133 rfl (by decide) rfl Tryz.ntmps133 rfl (fun A hu hA => ?_) (fun _ _ _ h => h)
  have hsz := ba_size l
  repeat (first | refine GO ?_ | refine NW fun _ => ?_)
  refine WL.step rfl (OP.callRO rfl rfl (qof_ro l (by omega)) (fun _ _ => trivial) rfl rfl ?_)
  have hlt32 := (crc l).isLt
  unfold tailM
  generalize crc l = c at *
  unfold u32V
  have b0 : Value.int .u8 ((c.toNat : Int) % 256) = byteV (UInt8.ofNat (c.toNat % 256)) := by
    unfold byteV; congr 1; rw [UInt8.toNat_ofNat']; omega
  have b1 : Value.int .u8 ((c.toNat : Int) / 256 % 256) = byteV (UInt8.ofNat ((c >>> 8).toNat % 256)) := by
    unfold byteV; congr 1; rw [UInt8.toNat_ofNat', BitVec.toNat_ushiftRight, Nat.shiftRight_eq_div_pow]; omega
  have b2 : Value.int .u8 ((c.toNat : Int) / 65536 % 256) = byteV (UInt8.ofNat ((c >>> 16).toNat % 256)) := by
    unfold byteV; congr 1; rw [UInt8.toNat_ofNat', BitVec.toNat_ushiftRight, Nat.shiftRight_eq_div_pow]; omega
  have b3 : Value.int .u8 ((c.toNat : Int) / 16777216) = byteV (UInt8.ofNat ((c >>> 24).toNat % 256)) := by
    unfold byteV; congr 1; rw [UInt8.toNat_ofNat', BitVec.toNat_ushiftRight, Nat.shiftRight_eq_div_pow]; omega
  repeat (first | refine GD ?_ | refine NW fun _ => ?_)
  rw [b0, b1, b2, b3]
  refine WL.step rfl (OP.toStr (sv := ba (le4 c)) rfl rfl rfl rfl rfl rfl rfl rfl (by rw [strCells_ba]; exact Ent.own (T := 5) MM) rfl rfl ?_)
  have hs4 : (ba (le4 c)).size = 4 := rfl
  repeat (first | refine GD ?_ | refine NW fun _ => ?_)
  rw [ba_app]
  exact ret1 rfl ⟨rfl, MM⟩
set_option maxHeartbeats 1000000 in
set_option maxRecDepth 10000 in
theorem qsector_ro (l : List UInt8) (hs : l.length ≤ 60) : RO G 105 [.string (ba l)] (fun _ => True) (.tuple #[.string (ba (sectorM l)), .bool true]) := by
  refine RO.enter Tryz.func105 rfl (by decide) rfl Tryz.ntmps105 rfl (fun A hu hA => ?_) (fun _ _ _ h => h)
  have hsz := ba_size l
  repeat (first | refine GD ?_ | refine NW fun _ => ?_)
  refine WC.loop (σ := Nat) (fun k => l.length + k ≤ 60)
    (fun k => [(0, .val (.string (ba (l ++ List.replicate k 0))))])
    (fun _ => [A]) (fun k => 60 - k) 0 (by omega) ⟨by simp; rfl, trivial⟩ (Imp.refl _) ?_
  rintro k hk
  have hsz := ba_size (l ++ List.replicate k 0)
  rw [List.length_append, List.length_replicate] at hsz
  by_cases h60 : l.length + k < 60
  · have hz1 : (⟨#[0]⟩ : ByteArray).size = 1 := rfl
    repeat (first | refine GD ?_ | refine NW fun _ => ?_)
    refine ⟨k + 1, by omega, by omega, ⟨?_, trivial⟩, Imp.refl _⟩
    rw [List.replicate_succ', ← List.append_assoc, ← ba_app]
    rfl
  · have hp : l ++ List.replicate k 0 = padM l := by unfold padM; rw [show 60 - l.length = k by omega]
    rw [hp] at hsz ⊢
    have hpl := padM_len hs
    repeat (first | refine GD ?_ | refine NW fun _ => ?_)
    refine WL.step rfl (OP.callRO rfl rfl (qseal_ro (padM l) (by omega)) (fun _ _ => trivial) rfl rfl ?_)
    repeat (first | refine GD ?_ | refine NW fun _ => ?_)
    exact ret2 rfl rfl ⟨rfl, MM⟩
end Go.Proofs.YtanjfjiaheghcaaGreatDoor

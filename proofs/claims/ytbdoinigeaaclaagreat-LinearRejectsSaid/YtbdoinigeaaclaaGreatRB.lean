/- LinearRejects: whatever the capacity, the threads, the calls and the picks, the law's function returns true. Conditions: slices are of a length that memory can hold.
   The law LinearRejects returns true, whatever the capacity, the threads, the calls and the picks; each argument reads as it did. Conditions: none. -/
import Derived.Test.YtbdoinigeaaclaaGreatB22
import Derived.Test.YtbdoinigeaaclaaGreatRows
import Derived.WalkKit
import Derived.ProofKit
import Derived.OpenShut
import Derived.ChangeOld
import Derived.Below
set_option linter.all false
set_option maxRecDepth 20000
namespace Go.Proofs.YtbdoinigeaaclaaGreat
open Go RL PQ
variable {g : World} {h h' : Hp} {w : World} {L : List (Nat × Obj)}
theorem dps_one (l : List DP) : ∀ r ∈ l.map DP.row, oneCells r = true := fun r hr => by
  obtain ⟨p, _, rfl⟩ := List.mem_map.1 hr
  rfl
theorem evs_one (l : List Ev) : ∀ r ∈ l.map evR, oneCells r = true := fun r hr => by
  obtain ⟨p, _, rfl⟩ := List.mem_map.1 hr
  rfl
def dupD (p : DP) (e : Ev) (a : Option Addr) (c : Nat) : DP := ⟨{ p.d with res := { p.d.res with evs := p.d.res.evs ++ [e] } }, a, c⟩
def cancD (p : DP) : DP := ⟨{ p.d with res := { p.d.res with canc := true } }, p.ea, p.ec⟩
theorem dns_set {sv : Value} {l : List DP} {i : Nat} {p : DP} (hs : Sl h 13 sv ((l.map DP.row).set i p.row)) (hev : ∀ q ∈ l, EvS h q.ev q.d.res.evs) (hp : EvS h p.ev p.d.res.evs) : DnS h sv (l.set i p) := by
  refine ⟨by rw [List.map_set]; exact hs, fun q hq => ?_⟩
  rcases List.mem_or_eq_of_mem_set hq with hq | hq
  · exact hev q hq
  · rw [hq]; exact hp
theorem dat_set {l : List DP} {i : Nat} {p : DP} (hi : i < l.length) : dat (ds (l.set i p)) i = p.d := by
  rw [dat_ds (by rw [List.length_set]; exact hi), List.getElem_set_self]
theorem dat_set_ne {l : List DP} {i j : Nat} {p : DP} (hj : j < l.length) (hne : i ≠ j) : dat (ds (l.set i p)) j = l[j].d := by
  rw [dat_ds (by rw [List.length_set]; exact hj), List.getElem_set_ne hne]
theorem dup_none {cap : Int} {l : List DP} {i : Nat} (hi : i < l.length) {e : Ev} (he : e ∈ l[i].d.res.evs) (a : Option Addr) (c : Nat) : checkL cap (ds (l.set i (dupD l[i] e a c))) = none := by
  refine reject_dup (i := i) (by rw [ds_length, List.length_set]; exact hi) ?_
  rw [dat_set hi]
  show ¬ ((l[i].d.res.evs ++ [e]).map Ev.handle).Nodup
  rw [List.map_append, List.nodup_append]
  intro hx
  exact hx.2.2 e.handle (List.mem_map_of_mem he) e.handle (by simp) rfl
theorem canc_none {cap : Int} {l : List DP} {i k : Nat} (hi : i < l.length) (hk : k < l.length) (hne : k ≠ i) (h1 : l[i].d.res.canc = true) (he : l[k].d.call.handle = l[i].d.call.handle) : checkL cap (ds (l.set k (cancD l[k]))) = none := by
  refine reject_canc (i := i) (k := k) (by rw [ds_length, List.length_set]; exact hi) (by rw [ds_length, List.length_set]; exact hk) hne ?_ ?_ ?_
  · rw [dat_set_ne hi hne]; exact h1
  · rw [dat_set hk]; rfl
  · rw [dat_set hk, dat_set_ne hi hne]; exact he
set_option maxHeartbeats 4000000 in
theorem linRejects (H : St g h w L) {rv pv : Value} {raw : List PQ.Call} {ps : List Nat} {cap thr : Nat} (hc : cap ≤ 255) (ht : thr ≤ 255) (hr : Sl h 5 rv (raw.map callL)) (hp : Sl h 1 pv (ps.map u8R)) (hpb : ∀ i (hi : i < ps.length), ps[i] ≤ 255) :
    Ret Tryz.prog 5 [.int .u8 (cap : Int), .int .u8 (thr : Int), rv, pv] w fun v w' => v = .bool true ∧ ∃ h', h.le h' ∧ St g h' w' L := by
  have hrl : (raw.take 7).length ≤ 7 := by rw [List.length_take]; omega
  obtain ⟨pa, pc, hpv⟩ := hp.lenM
  subst hpv
  refine Ret.enter tabOk Tryz.func5 rfl (by rfl) rfl (by rfl) (by kernel_rfl) ?_
  refine (head H).mono ?_; intro v w q
  have hv := q.1; have H := q.2; clear q
  subst hv
  refine CondT.dec (fun h300 => ?_) (fun h300 => ?_)
  · exact ⟨rfl, h, Hp.le_refl h, H⟩
  have hps : ps.length ≤ 300 := by omega
  refine (lawFew H hr).mono ?_; intro v w q
  have hr7 := q.1; have H := q.2; clear q
  refine (lawScripts H hr7 hrl ht).mono ?_; intro v w q
  refine q.elim fun h1 q => q.elim fun l q => ?_
  have hle1 := q.1; have hln := q.2.1; have hcn := q.2.2.1; have hsc := q.2.2.2.1; have H := q.2.2.2.2; clear q
  refine (lawPre (c := cap) hln hcn hrl hps).elim fun hF hE => ?_
  refine (lawCap H hc).mono ?_; intro v2 w q
  have hv := q.1; have H := q.2; clear q
  subst hv
  have hl1 : 1 ≤ l.length := by omega
  have hl2 : l.length ≤ 1000 := by omega
  refine (lawPicks H (hp.le hle1) hsc hl1 hl2 (by omega) hpb).mono ?_; intro v3 w q
  refine q.elim fun h2 q => ?_
  have hle2 := q.1; have hpk := q.2.1; have H := q.2.2; clear q
  refine (ilFinishAll H (hsc.le hle2) hpk hF).mono ?_; intro v4 w q
  refine q.elim fun h3 q => q.elim fun dv q => q.elim fun dps q => ?_
  have hle3 := q.1; have hv := q.2.1; have hdn := q.2.2.1; have hds := q.2.2.2.1; have H := q.2.2.2.2; clear q
  subst hv
  rw [← hds] at hE
  have hle : h.le h3 := Hp.le_trans hle1 (Hp.le_trans hle2 hle3)
  have h7 : dps.length ≤ 7 := by have h5 := hE.len; rw [ds_length] at h5; exact h5
  refine (Sl.lenM hdn.sl).elim fun da q => q.elim fun dc q => ?_
  subst q
  have hE7 : ∀ i (hi : i < dps.length), dps[i].d.res.evs.length ≤ 900 := fun i hi => by
    have h5 := hE.short dps[i].d (by unfold ds; exact List.mem_map_of_mem (f := fun p : DP => p.d) (List.getElem_mem hi))
    omega
  refine CondT.dec (fun hx => absurd hx (by omega)) (fun _ => ?_)
  refine LoopO.run (σ := Nat) (fun i => [(0, .int .u8 (cap : Int)), (9, .bool true), (11, .slice da dps.length dc), (13, .int .i64 (i : Int))])
    (fun i w => i ≤ dps.length ∧ ∃ h4, h3.le h4 ∧ St g h4 w L) (fun i => dps.length - i) 0 (by exact ⟨rfl, rfl, rfl, rfl, trivial⟩) ⟨Nat.zero_le _, h3, Hp.le_refl h3, H⟩ ?_
  rintro i w e ⟨hi, hq⟩
  refine hq.elim fun h4 q => ?_
  have hle4 := q.1; have H := q.2; clear q hq
  refine CondT.dec (fun hlt => ?_) (fun hge => ?_)
  · have hli : i < dps.length := by have h5 : (i : Int) < dps.length := hlt; omega
    have hli' : i + 1 ≤ dps.length := hli
    have hel := hE7 i hli
    refine AllocO.own H fun b1 w H => ?_
    have hob : OwnSl 40 13 (.slice (some ⟨b1, 0, none⟩) 0 0) [] [(b1, .cells #[] 40 (0, 0))] := ⟨by simp, .inr ⟨b1, #[], 0, rfl, Nat.le_refl _, rfl, rfl, rfl⟩⟩
    refine RunO.apps (xx := [(b1, .cells #[] 40 (0, 0))]) (n := 0) (m := dps.length) tabOk rfl rfl rfl rfl rfl rfl rfl H hob ((hdn.le hle4).sl.src H) (dps_one dps) rfl (List.length_map ..) (by omega) fun v w x hox H => ?_
    rw [List.nil_append] at hox
    refine (OwnSl.blk hox (by rw [List.length_map]; omega)).elim fun bx q => q.elim fun cx q => q.elim fun capx q => ?_
    have hv := q.1; have hx := q.2; clear q
    rw [List.length_map] at hv
    subst hv hx
    refine (Sl.idxM (hdn.le hle4).sl hli).elim fun bi q => q.elim fun oi q => ?_
    have hidx := q.1; have hrow := q.2; clear q
    have hevs : EvS h4 dps[i].ev dps[i].d.res.evs := (hdn.le hle4).ev _ (List.getElem_mem hli)
    refine hidx _ _ _ rfl ?_
    refine LdO.hc (j := 9) H hrow rfl ?_
    refine CondT.dec (fun hpos => ?_) (fun hno => ?_)
    · have hp0 : 0 < dps[i].d.res.evs.length := by have h5 : (0 : Int) < dps[i].d.res.evs.length := hpos; omega
      refine (Sl.idxM hevs hp0).elim fun be q => q.elim fun oe q => ?_
      have hidx0 := q.1; have hrow0 := q.2; clear q
      refine DrawO.wx H (fun w => St g h4 w ((bx, .cells cx 40 (0, 0)) :: L)) (fun w H => H) (fun j => Nat.beq j 23) (by kernel_rfl)
        (pl [0, 1, 3, 4, 5, 6, 7, 8, 10, 11, 12, 13, 14, 15, 16, 17] (.ll 2 (pl [] (.ll 9 (pl [1018, 1019, 20, 21, 22, 1023] .nil) 18 (pl [1009, 1019, 20, 21, 22, 1023] .nil))) 18 (pl [1002, 1009, 1019, 20, 21, 22, 1023] .nil))) (by kernel_rfl) fun w H => ?_
      refine hidx _ _ _ rfl ?_
      refine LdQ.hc hrow (j := 9) rfl ?_
      refine hidx _ _ _ rfl ?_
      refine LdQ.hc hrow (j := 9) rfl ?_
      refine hidx0 _ _ _ rfl ?_
      refine LdQ.hrow hrow0 rfl ?_
      refine ⟨?_, ?_⟩
      · refine AllocO.own H fun b2 w H => ⟨H.tail, ?_⟩
        refine ⟨?_, ?_⟩
        · skip
          have hob2 : OwnSl 48 2 (.slice (some ⟨b2, 0, none⟩) 0 0) [] [(b2, .cells #[] 48 (0, 0))] := ⟨by simp, .inr ⟨b2, #[], 0, rfl, Nat.le_refl _, rfl, rfl, rfl⟩⟩
          refine RunO.apps (xx := [(b2, .cells #[] 48 (0, 0))]) (n := 0) (m := dps[i].d.res.evs.length) tabOk rfl rfl rfl rfl rfl rfl rfl H hob2 (hevs.src H) (evs_one _) rfl (List.length_map ..) (by omega) fun v9 w x9 ho9 H => ?_
          rw [List.nil_append] at ho9
          refine ⟨H.sub (List.sublist_append_right _ _), ?_⟩
          refine AllocO.own H fun b18 w H => ⟨H.tail.sub (List.sublist_append_right _ _), ?_⟩
          have hsrc : Src w 2 (.slice (some ⟨b18, 0, none⟩) 1 1) [evR dps[i].d.res.evs[0]] := H.srcOwn .head (by simp [evR]) rfl rfl
          have H := St.pull (A := [_]) H
          refine RunO.apps (n := dps[i].d.res.evs.length) (m := 1) tabOk rfl rfl rfl rfl rfl rfl rfl H ho9 hsrc (by simp [oneCells, evR, Value.oneCell']) (List.length_map ..) rfl (by omega) fun v19 w x19 ho19 H => ?_
          have hmap : dps[i].d.res.evs.map evR ++ [evR dps[i].d.res.evs[0]] = (dps[i].d.res.evs ++ [dps[i].d.res.evs[0]]).map evR := by rw [List.map_append]; rfl
          rw [hmap] at ho19
          refine (OwnSl.lenM ho19).elim fun a19 q => q.elim fun c19 q => ?_
          subst q
          have H : St g h4 w (x19 ++ ((bx, .cells cx 40 (0, 0)) :: L)) := H.sub ((List.sublist_cons_self _ _).append_left x19)
          refine ⟨H.sub (List.sublist_append_right _ _), ?_⟩
          have H := St.pull (A := x19) (x := [_]) H
          have hir : i < (dps.map DP.row).length := by rw [List.length_map]; exact hli
          have P1 := OwnSl.part hox hir (j := 9) (vs := [.slice a19 (dps[i].d.res.evs ++ [dps[i].d.res.evs[0]]).length c19]) (by show 9 + 1 ≤ 13; decide) rfl (row := (dupD dps[i] dps[i].d.res.evs[0] a19 c19).row) (by rw [List.getElem_map]; rfl)
          refine IdxO.at0 (i := i) rfl hli ?_
          refine StO.ownE H .head rfl rfl P1.1 rfl fun w H => ⟨rfl, ?_⟩
          have H := St.pull (A := [_]) H
          refine (OwnSl.sealIt ho19 H).elim fun h6 q => ?_
          have hle6 := q.1; have H := q.2.1; have hs6 := q.2.2; clear q
          refine (OwnSl.sealIt (L := L) P1.2 H).elim fun h7' q => ?_
          have hle7 := q.1; have H := q.2.1; have hs7 := q.2.2; clear q
          have hle47 := Hp.le_trans hle4 (Hp.le_trans hle6 hle7)
          have hd7 : DnS h7' (.slice (some ⟨bx, 0, none⟩) dps.length capx) (dps.set i (dupD dps[i] dps[i].d.res.evs[0] a19 c19)) := dns_set hs7 (hdn.le hle47).ev (hs6.le hle7)
          have hck : checkL ((cap % 6 + 1 : Nat) : Int) (ds (dps.set i (dupD dps[i] dps[i].d.res.evs[0] a19 c19))) = none := dup_none hli (List.getElem_mem _) a19 c19
          refine (lawCap H hc).mono ?_; intro v w q
          have hv := q.1; have H := q.2; clear q
          subst hv
          have hl9 : (dps.set i (dupD dps[i] dps[i].d.res.evs[0] a19 c19)).length ≤ 900 := by rw [List.length_set]; omega
          refine (check H _ hd7 hl9).mono ?_; intro v w q
          refine q.elim fun h8 q => q.elim fun x1 q => ?_
          have hle8 := q.1; have hv1 := q.2.1; have H := q.2.2.2; clear q
          rw [hck] at hv1
          subst hv1
          refine CondT.mk ?_
          have hle48 := Hp.le_trans hle47 hle8
          refine LoopO.run (σ := Nat) (fun k => [(0, .int .u8 (cap : Int)), (9, .bool true), (11, .slice da dps.length dc), (13, .int .i64 (i : Int)), (17, .int .i64 (k : Int))])
            (fun k w => k ≤ dps.length ∧ ∃ h5, h3.le h5 ∧ St g h5 w L) (fun k => dps.length - k) 0 (by exact ⟨rfl, rfl, rfl, rfl, rfl, trivial⟩) ⟨Nat.zero_le _, h8, hle48, H⟩ ?_
          rintro k w e ⟨hk, hq⟩
          refine hq.elim fun h5 q => ?_
          have hle5 := q.1; have H := q.2; clear q hq
          refine CondT.dec (fun hlt => ?_) (fun hge => ?_)
          · have hlk : k < dps.length := by have h6 : (k : Int) < dps.length := hlt; omega
            have hlk' : k + 1 ≤ dps.length := hlk
            refine (Sl.idxM (hdn.le hle5).sl hli).elim fun bi q => q.elim fun oi q => ?_
            have hidx := q.1; have hrow := q.2; clear q
            refine (Sl.idxM (hdn.le hle5).sl hlk).elim fun bk q => q.elim fun ok q => ?_
            have hidxk := q.1; have hrowk := q.2; clear q
            refine DrawO.st H (pl [0, 1, 2, 3, 4, 5, 6, 7, 8, 9, 10, 11, 12, 13, 14, 15, 16, 17, 18, 19, 20, 21, 22, 23, 24, 25, 26, 27, 28, 29, 30, 31, 32, 33, 34] .nil) (by kernel_rfl) fun w H => ?_
            refine CondT.dec (fun hne => ?_) (fun heq => ?_)
            · refine hidx _ _ _ rfl ?_
              refine LdQ.hc hrow (j := 8) rfl ?_
              refine CondT.bool (fun hcn => ?_) (fun hcn => ?_)
              · refine hidxk _ _ _ rfl ?_
                refine LdQ.hc hrowk (j := 1) rfl ?_
                refine CondT.dec (fun hkd => ?_) (fun hkd => ?_)
                · refine hidxk _ _ _ rfl ?_
                  refine LdQ.hc hrowk (j := 3) rfl ?_
                  refine hidx _ _ _ rfl ?_
                  refine LdQ.hc hrow (j := 3) rfl ?_
                  refine CondT.dec (fun hhd => ?_) (fun hhd => ?_)
                  · have hki : k ≠ i := fun e => hne (by show (k : Int) = i; omega)
                    have hck : checkL ((cap % 6 + 1 : Nat) : Int) (ds (dps.set k (cancD dps[k]))) = none := canc_none hli hlk hki hcn hhd
                    refine AllocO.own H fun b1 w H => ?_
                    have hob : OwnSl 40 13 (.slice (some ⟨b1, 0, none⟩) 0 0) [] [(b1, .cells #[] 40 (0, 0))] := ⟨by simp, .inr ⟨b1, #[], 0, rfl, Nat.le_refl _, rfl, rfl, rfl⟩⟩
                    refine RunO.apps (xx := [(b1, .cells #[] 40 (0, 0))]) (n := 0) (m := dps.length) tabOk rfl rfl rfl rfl rfl rfl rfl H hob ((hdn.le hle5).sl.src H) (dps_one dps) rfl (List.length_map ..) (by omega) fun v w x hox H => ?_
                    rw [List.nil_append] at hox
                    refine (OwnSl.blk hox (by rw [List.length_map]; omega)).elim fun bx q => q.elim fun cx q => q.elim fun capx q => ?_
                    have hv := q.1; have hx := q.2; clear q
                    rw [List.length_map] at hv
                    subst hv hx
                    have hkr : k < (dps.map DP.row).length := by rw [List.length_map]; exact hlk
                    have P2 := OwnSl.part hox hkr (j := 8) (vs := [.bool true]) (by show 8 + 1 ≤ 13; decide) rfl (row := (cancD dps[k]).row) (by rw [List.getElem_map]; rfl)
                    refine IdxO.at0 (i := k) rfl hlk ?_
                    refine StO.ownE H .head rfl rfl P2.1 rfl fun w H => ?_
                    refine (OwnSl.sealIt (L := L) P2.2 H).elim fun h6 q => ?_
                    have hle6 := q.1; have H := q.2.1; have hs6 := q.2.2; clear q
                    have hle56 := Hp.le_trans hle5 hle6
                    have hd6 : DnS h6 (.slice (some ⟨bx, 0, none⟩) dps.length capx) (dps.set k (cancD dps[k])) := dns_set hs6 (hdn.le hle56).ev ((hdn.le hle56).ev dps[k] (List.getElem_mem hlk))
                    refine (lawCap H hc).mono ?_; intro v w q
                    have hv := q.1; have H := q.2; clear q
                    subst hv
                    have hl9 : (dps.set k (cancD dps[k])).length ≤ 900 := by rw [List.length_set]; omega
                    have hsl : (.slice (some ⟨bx, 0, none⟩) dps.length capx : Value) = .slice (some ⟨bx, 0, none⟩) dps.length capx := rfl
                    refine (check H _ hd6 hl9).mono ?_; intro v w q
                    refine q.elim fun h8 q => q.elim fun x1 q => ?_
                    have hle8 := q.1; have hv1 := q.2.1; have H := q.2.2.2; clear q
                    rw [hck] at hv1
                    subst hv1
                    refine CondT.mk ?_
                    refine ArO.i64 ?_ (by omega) (by omega)
                    exact ⟨rfl, k + 1, ⟨rfl, rfl, rfl, rfl, rfl, trivial⟩, ⟨hlk', h8, Hp.le_trans hle56 hle8, H⟩, by omega⟩
                  · refine ArO.i64 ?_ (by omega) (by omega)
                    exact ⟨rfl, k + 1, ⟨rfl, rfl, rfl, rfl, rfl, trivial⟩, ⟨hlk', h5, hle5, H⟩, by omega⟩
                · refine CondT.mk ?_
                  refine ArO.i64 ?_ (by omega) (by omega)
                  exact ⟨rfl, k + 1, ⟨rfl, rfl, rfl, rfl, rfl, trivial⟩, ⟨hlk', h5, hle5, H⟩, by omega⟩
              · refine CondT.mk ?_
                refine CondT.mk ?_
                refine ArO.i64 ?_ (by omega) (by omega)
                exact ⟨rfl, k + 1, ⟨rfl, rfl, rfl, rfl, rfl, trivial⟩, ⟨hlk', h5, hle5, H⟩, by omega⟩
            · refine CondT.mk ?_
              refine CondT.mk ?_
              refine CondT.mk ?_
              refine ArO.i64 ?_ (by omega) (by omega)
              exact ⟨rfl, k + 1, ⟨rfl, rfl, rfl, rfl, rfl, trivial⟩, ⟨hlk', h5, hle5, H⟩, by omega⟩
          · refine ArO.i64 ?_ (by omega) (by omega)
            exact ⟨rfl, i + 1, ⟨rfl, rfl, rfl, rfl, trivial⟩, ⟨hli', h5, hle5, H⟩, by omega⟩
        · refine AllocO.own H fun b18 w H => ⟨H.tail.tail, ?_⟩
          have H := St.pull (A := [_]) (x := [_]) H
          have hob2 : OwnSl 48 2 (.slice (some ⟨b2, 0, none⟩) 0 0) [] [(b2, .cells #[] 48 (0, 0))] := ⟨by simp, .inr ⟨b2, #[], 0, rfl, Nat.le_refl _, rfl, rfl, rfl⟩⟩
          refine RunO.apps (xx := [(b2, .cells #[] 48 (0, 0))]) (n := 0) (m := dps[i].d.res.evs.length) tabOk rfl rfl rfl rfl rfl rfl rfl H hob2 (hevs.src H) (evs_one _) rfl (List.length_map ..) (by omega) fun v9 w x9 ho9 H => ?_
          rw [List.nil_append] at ho9
          have hsrc : Src w 2 (.slice (some ⟨b18, 0, none⟩) 1 1) [evR dps[i].d.res.evs[0]] := (H.sub (List.sublist_append_right _ _)).srcOwn .head (by simp [evR]) rfl rfl
          refine ⟨(H.sub (List.sublist_append_right _ _)).tail, ?_⟩
          refine RunO.apps (n := dps[i].d.res.evs.length) (m := 1) tabOk rfl rfl rfl rfl rfl rfl rfl H ho9 hsrc (by simp [oneCells, evR, Value.oneCell']) (List.length_map ..) rfl (by omega) fun v19 w x19 ho19 H => ?_
          have hmap : dps[i].d.res.evs.map evR ++ [evR dps[i].d.res.evs[0]] = (dps[i].d.res.evs ++ [dps[i].d.res.evs[0]]).map evR := by rw [List.map_append]; rfl
          rw [hmap] at ho19
          refine (OwnSl.lenM ho19).elim fun a19 q => q.elim fun c19 q => ?_
          subst q
          have H : St g h4 w (x19 ++ ((bx, .cells cx 40 (0, 0)) :: L)) := H.sub ((List.sublist_cons_self _ _).append_left x19)
          refine ⟨H.sub (List.sublist_append_right _ _), ?_⟩
          have H := St.pull (A := x19) (x := [_]) H
          have hir : i < (dps.map DP.row).length := by rw [List.length_map]; exact hli
          have P1 := OwnSl.part hox hir (j := 9) (vs := [.slice a19 (dps[i].d.res.evs ++ [dps[i].d.res.evs[0]]).length c19]) (by show 9 + 1 ≤ 13; decide) rfl (row := (dupD dps[i] dps[i].d.res.evs[0] a19 c19).row) (by rw [List.getElem_map]; rfl)
          refine IdxO.at0 (i := i) rfl hli ?_
          refine StO.ownE H .head rfl rfl P1.1 rfl fun w H => ⟨rfl, ?_⟩
          have H := St.pull (A := [_]) H
          refine (OwnSl.sealIt ho19 H).elim fun h6 q => ?_
          have hle6 := q.1; have H := q.2.1; have hs6 := q.2.2; clear q
          refine (OwnSl.sealIt (L := L) P1.2 H).elim fun h7' q => ?_
          have hle7 := q.1; have H := q.2.1; have hs7 := q.2.2; clear q
          have hle47 := Hp.le_trans hle4 (Hp.le_trans hle6 hle7)
          have hd7 : DnS h7' (.slice (some ⟨bx, 0, none⟩) dps.length capx) (dps.set i (dupD dps[i] dps[i].d.res.evs[0] a19 c19)) := dns_set hs7 (hdn.le hle47).ev (hs6.le hle7)
          have hck : checkL ((cap % 6 + 1 : Nat) : Int) (ds (dps.set i (dupD dps[i] dps[i].d.res.evs[0] a19 c19))) = none := dup_none hli (List.getElem_mem _) a19 c19
          refine (lawCap H hc).mono ?_; intro v w q
          have hv := q.1; have H := q.2; clear q
          subst hv
          have hl9 : (dps.set i (dupD dps[i] dps[i].d.res.evs[0] a19 c19)).length ≤ 900 := by rw [List.length_set]; omega
          refine (check H _ hd7 hl9).mono ?_; intro v w q
          refine q.elim fun h8 q => q.elim fun x1 q => ?_
          have hle8 := q.1; have hv1 := q.2.1; have H := q.2.2.2; clear q
          rw [hck] at hv1
          subst hv1
          refine CondT.mk ?_
          have hle48 := Hp.le_trans hle47 hle8
          refine LoopO.run (σ := Nat) (fun k => [(0, .int .u8 (cap : Int)), (9, .bool true), (11, .slice da dps.length dc), (13, .int .i64 (i : Int)), (17, .int .i64 (k : Int))])
            (fun k w => k ≤ dps.length ∧ ∃ h5, h3.le h5 ∧ St g h5 w L) (fun k => dps.length - k) 0 (by exact ⟨rfl, rfl, rfl, rfl, rfl, trivial⟩) ⟨Nat.zero_le _, h8, hle48, H⟩ ?_
          rintro k w e ⟨hk, hq⟩
          refine hq.elim fun h5 q => ?_
          have hle5 := q.1; have H := q.2; clear q hq
          refine CondT.dec (fun hlt => ?_) (fun hge => ?_)
          · have hlk : k < dps.length := by have h6 : (k : Int) < dps.length := hlt; omega
            have hlk' : k + 1 ≤ dps.length := hlk
            refine (Sl.idxM (hdn.le hle5).sl hli).elim fun bi q => q.elim fun oi q => ?_
            have hidx := q.1; have hrow := q.2; clear q
            refine (Sl.idxM (hdn.le hle5).sl hlk).elim fun bk q => q.elim fun ok q => ?_
            have hidxk := q.1; have hrowk := q.2; clear q
            refine DrawO.st H (pl [0, 1, 2, 3, 4, 5, 6, 7, 8, 9, 10, 11, 12, 13, 14, 15, 16, 17, 18, 19, 20, 21, 22, 23, 24, 25, 26, 27, 28, 29, 30, 31, 32, 33, 34] .nil) (by kernel_rfl) fun w H => ?_
            refine CondT.dec (fun hne => ?_) (fun heq => ?_)
            · refine hidx _ _ _ rfl ?_
              refine LdQ.hc hrow (j := 8) rfl ?_
              refine CondT.bool (fun hcn => ?_) (fun hcn => ?_)
              · refine hidxk _ _ _ rfl ?_
                refine LdQ.hc hrowk (j := 1) rfl ?_
                refine CondT.dec (fun hkd => ?_) (fun hkd => ?_)
                · refine hidxk _ _ _ rfl ?_
                  refine LdQ.hc hrowk (j := 3) rfl ?_
                  refine hidx _ _ _ rfl ?_
                  refine LdQ.hc hrow (j := 3) rfl ?_
                  refine CondT.dec (fun hhd => ?_) (fun hhd => ?_)
                  · have hki : k ≠ i := fun e => hne (by show (k : Int) = i; omega)
                    have hck : checkL ((cap % 6 + 1 : Nat) : Int) (ds (dps.set k (cancD dps[k]))) = none := canc_none hli hlk hki hcn hhd
                    refine AllocO.own H fun b1 w H => ?_
                    have hob : OwnSl 40 13 (.slice (some ⟨b1, 0, none⟩) 0 0) [] [(b1, .cells #[] 40 (0, 0))] := ⟨by simp, .inr ⟨b1, #[], 0, rfl, Nat.le_refl _, rfl, rfl, rfl⟩⟩
                    refine RunO.apps (xx := [(b1, .cells #[] 40 (0, 0))]) (n := 0) (m := dps.length) tabOk rfl rfl rfl rfl rfl rfl rfl H hob ((hdn.le hle5).sl.src H) (dps_one dps) rfl (List.length_map ..) (by omega) fun v w x hox H => ?_
                    rw [List.nil_append] at hox
                    refine (OwnSl.blk hox (by rw [List.length_map]; omega)).elim fun bx q => q.elim fun cx q => q.elim fun capx q => ?_
                    have hv := q.1; have hx := q.2; clear q
                    rw [List.length_map] at hv
                    subst hv hx
                    have hkr : k < (dps.map DP.row).length := by rw [List.length_map]; exact hlk
                    have P2 := OwnSl.part hox hkr (j := 8) (vs := [.bool true]) (by show 8 + 1 ≤ 13; decide) rfl (row := (cancD dps[k]).row) (by rw [List.getElem_map]; rfl)
                    refine IdxO.at0 (i := k) rfl hlk ?_
                    refine StO.ownE H .head rfl rfl P2.1 rfl fun w H => ?_
                    refine (OwnSl.sealIt (L := L) P2.2 H).elim fun h6 q => ?_
                    have hle6 := q.1; have H := q.2.1; have hs6 := q.2.2; clear q
                    have hle56 := Hp.le_trans hle5 hle6
                    have hd6 : DnS h6 (.slice (some ⟨bx, 0, none⟩) dps.length capx) (dps.set k (cancD dps[k])) := dns_set hs6 (hdn.le hle56).ev ((hdn.le hle56).ev dps[k] (List.getElem_mem hlk))
                    refine (lawCap H hc).mono ?_; intro v w q
                    have hv := q.1; have H := q.2; clear q
                    subst hv
                    have hl9 : (dps.set k (cancD dps[k])).length ≤ 900 := by rw [List.length_set]; omega
                    have hsl : (.slice (some ⟨bx, 0, none⟩) dps.length capx : Value) = .slice (some ⟨bx, 0, none⟩) dps.length capx := rfl
                    refine (check H _ hd6 hl9).mono ?_; intro v w q
                    refine q.elim fun h8 q => q.elim fun x1 q => ?_
                    have hle8 := q.1; have hv1 := q.2.1; have H := q.2.2.2; clear q
                    rw [hck] at hv1
                    subst hv1
                    refine CondT.mk ?_
                    refine ArO.i64 ?_ (by omega) (by omega)
                    exact ⟨rfl, k + 1, ⟨rfl, rfl, rfl, rfl, rfl, trivial⟩, ⟨hlk', h8, Hp.le_trans hle56 hle8, H⟩, by omega⟩
                  · refine ArO.i64 ?_ (by omega) (by omega)
                    exact ⟨rfl, k + 1, ⟨rfl, rfl, rfl, rfl, rfl, trivial⟩, ⟨hlk', h5, hle5, H⟩, by omega⟩
                · refine CondT.mk ?_
                  refine ArO.i64 ?_ (by omega) (by omega)
                  exact ⟨rfl, k + 1, ⟨rfl, rfl, rfl, rfl, rfl, trivial⟩, ⟨hlk', h5, hle5, H⟩, by omega⟩
              · refine CondT.mk ?_
                refine CondT.mk ?_
                refine ArO.i64 ?_ (by omega) (by omega)
                exact ⟨rfl, k + 1, ⟨rfl, rfl, rfl, rfl, rfl, trivial⟩, ⟨hlk', h5, hle5, H⟩, by omega⟩
            · refine CondT.mk ?_
              refine CondT.mk ?_
              refine CondT.mk ?_
              refine ArO.i64 ?_ (by omega) (by omega)
              exact ⟨rfl, k + 1, ⟨rfl, rfl, rfl, rfl, rfl, trivial⟩, ⟨hlk', h5, hle5, H⟩, by omega⟩
          · refine ArO.i64 ?_ (by omega) (by omega)
            exact ⟨rfl, i + 1, ⟨rfl, rfl, rfl, rfl, trivial⟩, ⟨hli', h5, hle5, H⟩, by omega⟩
      · refine AllocO.own H fun b18 w H => ⟨H.tail, ?_⟩
        refine AllocO.own H fun b2 w H => ⟨H.tail.tail, ?_⟩
        have H : St g h4 w ([_] ++ _) := H
        have hob2 : OwnSl 48 2 (.slice (some ⟨b2, 0, none⟩) 0 0) [] [(b2, .cells #[] 48 (0, 0))] := ⟨by simp, .inr ⟨b2, #[], 0, rfl, Nat.le_refl _, rfl, rfl, rfl⟩⟩
        refine RunO.apps (xx := [(b2, .cells #[] 48 (0, 0))]) (n := 0) (m := dps[i].d.res.evs.length) tabOk rfl rfl rfl rfl rfl rfl rfl H hob2 (hevs.src H) (evs_one _) rfl (List.length_map ..) (by omega) fun v9 w x9 ho9 H => ?_
        rw [List.nil_append] at ho9
        have hsrc : Src w 2 (.slice (some ⟨b18, 0, none⟩) 1 1) [evR dps[i].d.res.evs[0]] := (H.sub (List.sublist_append_right _ _)).srcOwn .head (by simp [evR]) rfl rfl
        refine ⟨(H.sub (List.sublist_append_right _ _)).tail, ?_⟩
        refine RunO.apps (n := dps[i].d.res.evs.length) (m := 1) tabOk rfl rfl rfl rfl rfl rfl rfl H ho9 hsrc (by simp [oneCells, evR, Value.oneCell']) (List.length_map ..) rfl (by omega) fun v19 w x19 ho19 H => ?_
        have hmap : dps[i].d.res.evs.map evR ++ [evR dps[i].d.res.evs[0]] = (dps[i].d.res.evs ++ [dps[i].d.res.evs[0]]).map evR := by rw [List.map_append]; rfl
        rw [hmap] at ho19
        refine (OwnSl.lenM ho19).elim fun a19 q => q.elim fun c19 q => ?_
        subst q
        have H : St g h4 w (x19 ++ ((bx, .cells cx 40 (0, 0)) :: L)) := H.sub ((List.sublist_cons_self _ _).append_left x19)
        refine ⟨H.sub (List.sublist_append_right _ _), ?_⟩
        have H := St.pull (A := x19) (x := [_]) H
        have hir : i < (dps.map DP.row).length := by rw [List.length_map]; exact hli
        have P1 := OwnSl.part hox hir (j := 9) (vs := [.slice a19 (dps[i].d.res.evs ++ [dps[i].d.res.evs[0]]).length c19]) (by show 9 + 1 ≤ 13; decide) rfl (row := (dupD dps[i] dps[i].d.res.evs[0] a19 c19).row) (by rw [List.getElem_map]; rfl)
        refine IdxO.at0 (i := i) rfl hli ?_
        refine StO.ownE H .head rfl rfl P1.1 rfl fun w H => ⟨rfl, ?_⟩
        have H := St.pull (A := [_]) H
        refine (OwnSl.sealIt ho19 H).elim fun h6 q => ?_
        have hle6 := q.1; have H := q.2.1; have hs6 := q.2.2; clear q
        refine (OwnSl.sealIt (L := L) P1.2 H).elim fun h7' q => ?_
        have hle7 := q.1; have H := q.2.1; have hs7 := q.2.2; clear q
        have hle47 := Hp.le_trans hle4 (Hp.le_trans hle6 hle7)
        have hd7 : DnS h7' (.slice (some ⟨bx, 0, none⟩) dps.length capx) (dps.set i (dupD dps[i] dps[i].d.res.evs[0] a19 c19)) := dns_set hs7 (hdn.le hle47).ev (hs6.le hle7)
        have hck : checkL ((cap % 6 + 1 : Nat) : Int) (ds (dps.set i (dupD dps[i] dps[i].d.res.evs[0] a19 c19))) = none := dup_none hli (List.getElem_mem _) a19 c19
        refine (lawCap H hc).mono ?_; intro v w q
        have hv := q.1; have H := q.2; clear q
        subst hv
        have hl9 : (dps.set i (dupD dps[i] dps[i].d.res.evs[0] a19 c19)).length ≤ 900 := by rw [List.length_set]; omega
        refine (check H _ hd7 hl9).mono ?_; intro v w q
        refine q.elim fun h8 q => q.elim fun x1 q => ?_
        have hle8 := q.1; have hv1 := q.2.1; have H := q.2.2.2; clear q
        rw [hck] at hv1
        subst hv1
        refine CondT.mk ?_
        have hle48 := Hp.le_trans hle47 hle8
        refine LoopO.run (σ := Nat) (fun k => [(0, .int .u8 (cap : Int)), (9, .bool true), (11, .slice da dps.length dc), (13, .int .i64 (i : Int)), (17, .int .i64 (k : Int))])
          (fun k w => k ≤ dps.length ∧ ∃ h5, h3.le h5 ∧ St g h5 w L) (fun k => dps.length - k) 0 (by exact ⟨rfl, rfl, rfl, rfl, rfl, trivial⟩) ⟨Nat.zero_le _, h8, hle48, H⟩ ?_
        rintro k w e ⟨hk, hq⟩
        refine hq.elim fun h5 q => ?_
        have hle5 := q.1; have H := q.2; clear q hq
        refine CondT.dec (fun hlt => ?_) (fun hge => ?_)
        · have hlk : k < dps.length := by have h6 : (k : Int) < dps.length := hlt; omega
          have hlk' : k + 1 ≤ dps.length := hlk
          refine (Sl.idxM (hdn.le hle5).sl hli).elim fun bi q => q.elim fun oi q => ?_
          have hidx := q.1; have hrow := q.2; clear q
          refine (Sl.idxM (hdn.le hle5).sl hlk).elim fun bk q => q.elim fun ok q => ?_
          have hidxk := q.1; have hrowk := q.2; clear q
          refine DrawO.st H (pl [0, 1, 2, 3, 4, 5, 6, 7, 8, 9, 10, 11, 12, 13, 14, 15, 16, 17, 18, 19, 20, 21, 22, 23, 24, 25, 26, 27, 28, 29, 30, 31, 32, 33, 34] .nil) (by kernel_rfl) fun w H => ?_
          refine CondT.dec (fun hne => ?_) (fun heq => ?_)
          · refine hidx _ _ _ rfl ?_
            refine LdQ.hc hrow (j := 8) rfl ?_
            refine CondT.bool (fun hcn => ?_) (fun hcn => ?_)
            · refine hidxk _ _ _ rfl ?_
              refine LdQ.hc hrowk (j := 1) rfl ?_
              refine CondT.dec (fun hkd => ?_) (fun hkd => ?_)
              · refine hidxk _ _ _ rfl ?_
                refine LdQ.hc hrowk (j := 3) rfl ?_
                refine hidx _ _ _ rfl ?_
                refine LdQ.hc hrow (j := 3) rfl ?_
                refine CondT.dec (fun hhd => ?_) (fun hhd => ?_)
                · have hki : k ≠ i := fun e => hne (by show (k : Int) = i; omega)
                  have hck : checkL ((cap % 6 + 1 : Nat) : Int) (ds (dps.set k (cancD dps[k]))) = none := canc_none hli hlk hki hcn hhd
                  refine AllocO.own H fun b1 w H => ?_
                  have hob : OwnSl 40 13 (.slice (some ⟨b1, 0, none⟩) 0 0) [] [(b1, .cells #[] 40 (0, 0))] := ⟨by simp, .inr ⟨b1, #[], 0, rfl, Nat.le_refl _, rfl, rfl, rfl⟩⟩
                  refine RunO.apps (xx := [(b1, .cells #[] 40 (0, 0))]) (n := 0) (m := dps.length) tabOk rfl rfl rfl rfl rfl rfl rfl H hob ((hdn.le hle5).sl.src H) (dps_one dps) rfl (List.length_map ..) (by omega) fun v w x hox H => ?_
                  rw [List.nil_append] at hox
                  refine (OwnSl.blk hox (by rw [List.length_map]; omega)).elim fun bx q => q.elim fun cx q => q.elim fun capx q => ?_
                  have hv := q.1; have hx := q.2; clear q
                  rw [List.length_map] at hv
                  subst hv hx
                  have hkr : k < (dps.map DP.row).length := by rw [List.length_map]; exact hlk
                  have P2 := OwnSl.part hox hkr (j := 8) (vs := [.bool true]) (by show 8 + 1 ≤ 13; decide) rfl (row := (cancD dps[k]).row) (by rw [List.getElem_map]; rfl)
                  refine IdxO.at0 (i := k) rfl hlk ?_
                  refine StO.ownE H .head rfl rfl P2.1 rfl fun w H => ?_
                  refine (OwnSl.sealIt (L := L) P2.2 H).elim fun h6 q => ?_
                  have hle6 := q.1; have H := q.2.1; have hs6 := q.2.2; clear q
                  have hle56 := Hp.le_trans hle5 hle6
                  have hd6 : DnS h6 (.slice (some ⟨bx, 0, none⟩) dps.length capx) (dps.set k (cancD dps[k])) := dns_set hs6 (hdn.le hle56).ev ((hdn.le hle56).ev dps[k] (List.getElem_mem hlk))
                  refine (lawCap H hc).mono ?_; intro v w q
                  have hv := q.1; have H := q.2; clear q
                  subst hv
                  have hl9 : (dps.set k (cancD dps[k])).length ≤ 900 := by rw [List.length_set]; omega
                  have hsl : (.slice (some ⟨bx, 0, none⟩) dps.length capx : Value) = .slice (some ⟨bx, 0, none⟩) dps.length capx := rfl
                  refine (check H _ hd6 hl9).mono ?_; intro v w q
                  refine q.elim fun h8 q => q.elim fun x1 q => ?_
                  have hle8 := q.1; have hv1 := q.2.1; have H := q.2.2.2; clear q
                  rw [hck] at hv1
                  subst hv1
                  refine CondT.mk ?_
                  refine ArO.i64 ?_ (by omega) (by omega)
                  exact ⟨rfl, k + 1, ⟨rfl, rfl, rfl, rfl, rfl, trivial⟩, ⟨hlk', h8, Hp.le_trans hle56 hle8, H⟩, by omega⟩
                · refine ArO.i64 ?_ (by omega) (by omega)
                  exact ⟨rfl, k + 1, ⟨rfl, rfl, rfl, rfl, rfl, trivial⟩, ⟨hlk', h5, hle5, H⟩, by omega⟩
              · refine CondT.mk ?_
                refine ArO.i64 ?_ (by omega) (by omega)
                exact ⟨rfl, k + 1, ⟨rfl, rfl, rfl, rfl, rfl, trivial⟩, ⟨hlk', h5, hle5, H⟩, by omega⟩
            · refine CondT.mk ?_
              refine CondT.mk ?_
              refine ArO.i64 ?_ (by omega) (by omega)
              exact ⟨rfl, k + 1, ⟨rfl, rfl, rfl, rfl, rfl, trivial⟩, ⟨hlk', h5, hle5, H⟩, by omega⟩
          · refine CondT.mk ?_
            refine CondT.mk ?_
            refine CondT.mk ?_
            refine ArO.i64 ?_ (by omega) (by omega)
            exact ⟨rfl, k + 1, ⟨rfl, rfl, rfl, rfl, rfl, trivial⟩, ⟨hlk', h5, hle5, H⟩, by omega⟩
        · refine ArO.i64 ?_ (by omega) (by omega)
          exact ⟨rfl, i + 1, ⟨rfl, rfl, rfl, rfl, trivial⟩, ⟨hli', h5, hle5, H⟩, by omega⟩
    · have H := H.tail
      refine LoopO.run (σ := Nat) (fun k => [(0, .int .u8 (cap : Int)), (9, .bool true), (11, .slice da dps.length dc), (13, .int .i64 (i : Int)), (17, .int .i64 (k : Int))])
        (fun k w => k ≤ dps.length ∧ ∃ h5, h3.le h5 ∧ St g h5 w L) (fun k => dps.length - k) 0 (by exact ⟨rfl, rfl, rfl, rfl, rfl, trivial⟩) ⟨Nat.zero_le _, h4, hle4, H⟩ ?_
      rintro k w e ⟨hk, hq⟩
      refine hq.elim fun h5 q => ?_
      have hle5 := q.1; have H := q.2; clear q hq
      refine CondT.dec (fun hlt => ?_) (fun hge => ?_)
      · have hlk : k < dps.length := by have h6 : (k : Int) < dps.length := hlt; omega
        have hlk' : k + 1 ≤ dps.length := hlk
        refine (Sl.idxM (hdn.le hle5).sl hli).elim fun bi q => q.elim fun oi q => ?_
        have hidx := q.1; have hrow := q.2; clear q
        refine (Sl.idxM (hdn.le hle5).sl hlk).elim fun bk q => q.elim fun ok q => ?_
        have hidxk := q.1; have hrowk := q.2; clear q
        refine DrawO.st H (pl [0, 1, 2, 3, 4, 5, 6, 7, 8, 9, 10, 11, 12, 13, 14, 15, 16, 17, 18, 19, 20, 21, 22, 23, 24, 25, 26, 27, 28, 29, 30, 31, 32, 33, 34] .nil) (by kernel_rfl) fun w H => ?_
        refine CondT.dec (fun hne => ?_) (fun heq => ?_)
        · refine hidx _ _ _ rfl ?_
          refine LdQ.hc hrow (j := 8) rfl ?_
          refine CondT.bool (fun hcn => ?_) (fun hcn => ?_)
          · refine hidxk _ _ _ rfl ?_
            refine LdQ.hc hrowk (j := 1) rfl ?_
            refine CondT.dec (fun hkd => ?_) (fun hkd => ?_)
            · refine hidxk _ _ _ rfl ?_
              refine LdQ.hc hrowk (j := 3) rfl ?_
              refine hidx _ _ _ rfl ?_
              refine LdQ.hc hrow (j := 3) rfl ?_
              refine CondT.dec (fun hhd => ?_) (fun hhd => ?_)
              · have hki : k ≠ i := fun e => hne (by show (k : Int) = i; omega)
                have hck : checkL ((cap % 6 + 1 : Nat) : Int) (ds (dps.set k (cancD dps[k]))) = none := canc_none hli hlk hki hcn hhd
                refine AllocO.own H fun b1 w H => ?_
                have hob : OwnSl 40 13 (.slice (some ⟨b1, 0, none⟩) 0 0) [] [(b1, .cells #[] 40 (0, 0))] := ⟨by simp, .inr ⟨b1, #[], 0, rfl, Nat.le_refl _, rfl, rfl, rfl⟩⟩
                refine RunO.apps (xx := [(b1, .cells #[] 40 (0, 0))]) (n := 0) (m := dps.length) tabOk rfl rfl rfl rfl rfl rfl rfl H hob ((hdn.le hle5).sl.src H) (dps_one dps) rfl (List.length_map ..) (by omega) fun v w x hox H => ?_
                rw [List.nil_append] at hox
                refine (OwnSl.blk hox (by rw [List.length_map]; omega)).elim fun bx q => q.elim fun cx q => q.elim fun capx q => ?_
                have hv := q.1; have hx := q.2; clear q
                rw [List.length_map] at hv
                subst hv hx
                have hkr : k < (dps.map DP.row).length := by rw [List.length_map]; exact hlk
                have P2 := OwnSl.part hox hkr (j := 8) (vs := [.bool true]) (by show 8 + 1 ≤ 13; decide) rfl (row := (cancD dps[k]).row) (by rw [List.getElem_map]; rfl)
                refine IdxO.at0 (i := k) rfl hlk ?_
                refine StO.ownE H .head rfl rfl P2.1 rfl fun w H => ?_
                refine (OwnSl.sealIt (L := L) P2.2 H).elim fun h6 q => ?_
                have hle6 := q.1; have H := q.2.1; have hs6 := q.2.2; clear q
                have hle56 := Hp.le_trans hle5 hle6
                have hd6 : DnS h6 (.slice (some ⟨bx, 0, none⟩) dps.length capx) (dps.set k (cancD dps[k])) := dns_set hs6 (hdn.le hle56).ev ((hdn.le hle56).ev dps[k] (List.getElem_mem hlk))
                refine (lawCap H hc).mono ?_; intro v w q
                have hv := q.1; have H := q.2; clear q
                subst hv
                have hl9 : (dps.set k (cancD dps[k])).length ≤ 900 := by rw [List.length_set]; omega
                have hsl : (.slice (some ⟨bx, 0, none⟩) dps.length capx : Value) = .slice (some ⟨bx, 0, none⟩) dps.length capx := rfl
                refine (check H _ hd6 hl9).mono ?_; intro v w q
                refine q.elim fun h8 q => q.elim fun x1 q => ?_
                have hle8 := q.1; have hv1 := q.2.1; have H := q.2.2.2; clear q
                rw [hck] at hv1
                subst hv1
                refine CondT.mk ?_
                refine ArO.i64 ?_ (by omega) (by omega)
                exact ⟨rfl, k + 1, ⟨rfl, rfl, rfl, rfl, rfl, trivial⟩, ⟨hlk', h8, Hp.le_trans hle56 hle8, H⟩, by omega⟩
              · refine ArO.i64 ?_ (by omega) (by omega)
                exact ⟨rfl, k + 1, ⟨rfl, rfl, rfl, rfl, rfl, trivial⟩, ⟨hlk', h5, hle5, H⟩, by omega⟩
            · refine CondT.mk ?_
              refine ArO.i64 ?_ (by omega) (by omega)
              exact ⟨rfl, k + 1, ⟨rfl, rfl, rfl, rfl, rfl, trivial⟩, ⟨hlk', h5, hle5, H⟩, by omega⟩
          · refine CondT.mk ?_
            refine CondT.mk ?_
            refine ArO.i64 ?_ (by omega) (by omega)
            exact ⟨rfl, k + 1, ⟨rfl, rfl, rfl, rfl, rfl, trivial⟩, ⟨hlk', h5, hle5, H⟩, by omega⟩
        · refine CondT.mk ?_
          refine CondT.mk ?_
          refine CondT.mk ?_
          refine ArO.i64 ?_ (by omega) (by omega)
          exact ⟨rfl, k + 1, ⟨rfl, rfl, rfl, rfl, rfl, trivial⟩, ⟨hlk', h5, hle5, H⟩, by omega⟩
      · refine ArO.i64 ?_ (by omega) (by omega)
        exact ⟨rfl, i + 1, ⟨rfl, rfl, rfl, rfl, trivial⟩, ⟨hli', h5, hle5, H⟩, by omega⟩
  · exact ⟨rfl, h4, Hp.le_trans hle hle4, H⟩
theorem linRejectsZ (H : St g h w L) {rv pv : Value} {raw : List PQ.Call} {ps : List Nat} {cap thr : Int} (c0 : 0 ≤ cap) (c1 : cap ≤ 255) (t0 : 0 ≤ thr) (t1 : thr ≤ 255) (hr : Sl h 5 rv (raw.map callL)) (hp : Sl h 1 pv (ps.map u8R)) (hpb : ∀ i (hi : i < ps.length), ps[i] ≤ 255) :
    Ret Tryz.prog 5 [.int .u8 cap, .int .u8 thr, rv, pv] w fun v w' => v = .bool true ∧ ∃ h', h.le h' ∧ St g h' w' L := by
  obtain ⟨a, rfl⟩ : ∃ a : Nat, cap = (a : Int) := ⟨cap.toNat, by omega⟩
  obtain ⟨b, rfl⟩ : ∃ b : Nat, thr = (b : Int) := ⟨thr.toNat, by omega⟩
  exact linRejects H (by omega) (by omega) hr hp hpb
end Go.Proofs.YtbdoinigeaaclaaGreat
set_option maxRecDepth 20000
namespace Go.Proofs.YtbdoinigeaaclaaGreat
open Go RL PQ Go.ChangeShapes Go.WideShapes Go.ChangeAt Go.RowKit
set_option maxRecDepth 100000 in
theorem linearRejects_lifted (os : Os) (started : os.Started) (H : Type) (enc : TypeId × Value → H) :
    ReturnsInHanded {} Tryz.checked os 5 .any (Rows.linearRejectsSpec.pre6 enc Tryz.prog Tryz.f5 Rows.linearRejectsRow.domain false) (Rows.linearRejectsSpec.post enc Tryz.prog Tryz.f5 false true false false) := by
  refine returnsInHanded_of_change (C := Tryz.checked) own started (by kernel_rfl) Tryz.func5
    (ChangeSpec.witness6 (enc := enc) (C := Tryz.checked) false ⟨#[], #[.int .u8 0, .int .u8 0, .slice none 0 0, .slice none 0 0], []⟩ 8 (by kernel_rfl) (by kernel_rfl) (by kernel_rfl) (by kernel_rfl)) ?_
  intro W base args ds gs before hval0 hW hcnd _
  have hval : ∀ (j : Nat) t v, Tryz.f5.params[j]? = some t → args[j]? = some v → Value.okWide Tryz.prog W .any base t v := hval0
  have hW' := hW
  obtain ⟨p, q, hA0, hV, rfl, hfz, hnd⟩ := hW
  have hA : DataW.TrodAll enc Tryz.prog W 0 (fun _ => true) true Tryz.f5.params.toList args.toList ds p := hA0
  rw [Tryz.params5] at hA hval
  obtain ⟨v0, vs0, d0, ds0, p0, q0, hargs, rfl, rfl, h0, r0⟩ := trodAll_cons hA
  obtain ⟨v1, vs1, d1, ds1, p1, q1, rfl, rfl, rfl, h1, r1⟩ := trodAll_cons r0
  obtain ⟨v2, vs2, d2, ds2, p2, q2, rfl, rfl, rfl, h2, r2⟩ := trodAll_cons r1
  obtain ⟨v3, vs3, d3, ds3, p3, q3, rfl, rfl, rfl, h3, r3⟩ := trodAll_cons r2
  obtain ⟨rfl, rfl, rfl⟩ := trodAll_nil r3
  obtain rfl : args = #[v0, v1, v2, v3] := by cases args; simp_all
  obtain ⟨rfl, rfl⟩ := trodVars_none hV
  have b2 : ∀ x ∈ p2, x.block < W.heap.size := by obtain ⟨m, hm⟩ := h2; exact DataW.trod_lt m _ _ _ hm
  have b3 : ∀ x ∈ p3, x.block < W.heap.size := by obtain ⟨m, hm⟩ := h3; exact DataW.trod_lt m _ _ _ hm
  obtain ⟨a0, rfl, rfl, rfl, w0⟩ := open_int Tryz.underlying5 (hval 0 _ v0 rfl rfl) h0
  have c0 := bounds_u8 w0
  obtain ⟨a1, rfl, rfl, rfl, w1⟩ := open_int Tryz.underlying5 (hval 1 _ v1 rfl rfl) h1
  have c1 := bounds_u8 w1
  obtain ⟨a2, e2, c2⟩ := arg_calls (hval 2 _ v2 rfl rfl) h2
  obtain ⟨a3, e3, c3⟩ := arg_u8s (hval 3 _ v3 rfl rfl) h3
  clear hA0 hval0
  refine ((linRejectsZ (St.start W) c0.1 c0.2 c1.1 c1.2 e2 e3 c3).calls Tryz.func5 rfl (by decide +kernel)).mono fun e W' q => ?_
  obtain ⟨v, rfl, rfl, h', hle, HS⟩ := q
  have bel := HS.keeps hle
  exact ⟨_, rfl, _, _, _, [], _, [], hW', trodAll_mk1 (shut_bool Tryz.underlying4 _),
    (trodAll_cons_mk (shut_int Tryz.underlying5 w0) (trodAll_cons_mk (shut_int Tryz.underlying5 w1) (trodAll_cons_mk (Below.trod laidOut (by kernel_rfl) (of_decide_eq_true (by kernel_rfl)) h2 bel b2) (trodAll_cons_mk (Below.trod laidOut (by kernel_rfl) (of_decide_eq_true (by kernel_rfl)) h3 bel b3) trodAll_mk0)))),
    rfl, bel.frame _, fun h => by cases h⟩
/-- The statement. -/
theorem linearRejects_holds : Rows.LinearRejectsSaid :=
  OpenClaim.holds_of_wide 5 Tryz.f5 rfl rfl rfl rfl rfl rfl rfl ⟨rfl, rfl, rfl, rfl, rfl⟩ rfl rfl rfl rfl rfl (by kernel_rfl) Tryz.func5 (by kernel_rfl)
    (of_decide_eq_true (by kernel_rfl)) (by unfold Func.isWrapper; rw [if_neg (of_decide_eq_false (by kernel_rfl))]; exact ⟨rfl, rfl⟩)
    (fun os started H enc _ => linearRejects_lifted os started H enc)
#print axioms linearRejects_holds
end Go.Proofs.YtbdoinigeaaclaaGreat

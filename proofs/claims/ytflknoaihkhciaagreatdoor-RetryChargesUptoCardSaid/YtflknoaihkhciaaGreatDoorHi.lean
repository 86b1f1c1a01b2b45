/- Layer 10: the walk of Retry. -/
import Derived.Test.YtflknoaihkhciaaGreatDoorHe
import Derived.Test.YtflknoaihkhciaaGreatDoorHf
import Derived.Test.YtflknoaihkhciaaGreatDoorGv
import Derived.Deep.RegionHeld3
namespace Go.Proofs.YtflknoaihkhciaaGreatDoor
open Go.RowKit Dc
theorem retry_none {l : List Rt} {ch : List Int} {name : List UInt8} (h : l.findIdx (takes name) = l.length) : retryP l ch name = (0, 0, false) := by
  unfold retryP; rw [h, List.getElem?_eq_none (Nat.le_refl _)]
theorem retry_hit {l : List Rt} {ch : List Int} {name : List UInt8} {i : Nat} {r : Rt} {n : Int} (h : l.findIdx (takes name) = i) (hr : l[i]? = some r) (hn : timesP ch i = n) :
    retryP l ch name = if r.most ≤ n then (0, 0, false) else ((i : Int), delayP r.itv (r.neg, r.dig, r.ex) (n + 1) r.mx, true) := by
  unfold retryP; rw [h, hr, hn]
theorem times_in {ch : List Int} {i : Nat} (h : i < ch.length) : timesP ch i = max (ch.getD i 0) 0 := by unfold timesP; rw [if_pos h]
theorem times_out {ch : List Int} {i : Nat} (h : ¬ i < ch.length) : timesP ch i = 0 := by unfold timesP; rw [if_neg h]
theorem keep5 {W0 w w' : World} {p1 p2 p3 p4 p5 : Addr} {a b c d e : Value} (h : Below W0.heap.size W0 w ∧ w.cell? p1 = some a ∧ w.cell? p2 = some b ∧ w.cell? p3 = some c ∧ w.cell? p4 = some d ∧ w.cell? p5 = some e) (hb : Below w.heap.size w w') :
    Below W0.heap.size W0 w' ∧ w'.cell? p1 = some a ∧ w'.cell? p2 = some b ∧ w'.cell? p3 = some c ∧ w'.cell? p4 = some d ∧ w'.cell? p5 = some e := by
  obtain ⟨h0, h1, h2, h3, h4, h5⟩ := h
  have k : ∀ {p : Addr} {v : Value}, w.cell? p = some v → w'.cell? p = some v := fun h => (hb.cell (World.block_lt_of_cell? w _ h)).trans h
  exact ⟨h0.trans (hb.mono h0.size), k h1, k h2, k h3, k h4, k h5⟩
/-- A number of a list, bound as the lists of numbers are. -/
def Small (ch : List Int) : Prop := ∀ x ∈ ch, -9223372036854775808 ≤ x ∧ x ≤ 9223372036854775807
theorem times_bd {ch : List Int} (h : Small ch) (i : Nat) : 0 ≤ timesP ch i ∧ timesP ch i ≤ 9223372036854775807 := by
  unfold timesP
  split
  · rename_i hi
    have : ch.getD i 0 ∈ ch := by rw [List.getD_eq_getElem?_getD, List.getElem?_eq_getElem hi]; exact List.getElem_mem hi
    have := h _ this
    omega
  · omega
set_option maxHeartbeats 8000000 in
set_option maxRecDepth 100000 in
theorem Retry_any (v cv : Value) (l : List Rt) (ch : List Int) (name : List UInt8) (a d : Int) (ok : Bool) (w : World) (hv : Rets w v l) (hc : Ints w cv ch) (hcb : Small ch) (hd : ∀ r ∈ l, r.dig.length ≤ 100000000) (hE : EnvD w) (h : retryP l ch name = (a, d, ok)) :
    Calls Tryz.prog 34 #[v, cv, str name] w fun e w' => e = .returned (.tuple #[.int .i64 a, .int .i64 d, .bool ok]) ∧ Below w.heap.size w w' := by
  have hb : Below w.heap.size w (w.alloc (.cells #[str name] 9)) := below_al (Below.refl _ _) _
  have HF := Lib.hid (firstR_any v l name w.heap.size (w.alloc (.cells #[str name] 9)) (hv.step hb) (by rw [World.cell?_alloc_at _ _ _ _ rfl]; rfl))
  have HV := Lib.hid hv
  have HC := Lib.hid hc
  have HE := Lib.hid hE
  obtain ⟨ao, cap, rfl, hlc, hcm⟩ := hv.1.len
  have hlm : l.length ≤ 9223372036854775807 := by unfold maxLen at hcm; omega
  obtain ⟨ac, cc, rfl, hcc, hccm⟩ := hc.len
  have hcl : ch.length ≤ 9223372036854775807 := by unfold maxLen at hccm; omega
  clear hv hb hc hE hcm hccm
  rcases find_case (takes name) l with ⟨i, hi, hf⟩ | hf
  · obtain ⟨r, hr⟩ : ∃ r, l[i]? = some r := ⟨_, List.getElem?_eq_getElem hi⟩
    obtain ⟨n, hn⟩ : ∃ n, timesP ch i = n := ⟨_, rfl⟩
    have hnb := times_bd hcb i
    rw [hn] at hnb
    rw [retry_hit hf hr hn] at h
    rw [place_hit hi hf] at HF
    have HR := Lib.hid h
    have HN := Lib.hid hn
    have HRr := Lib.hid hr
    have HDl := Lib.hid (hd r (mem_at hr))
    have HCb := Lib.hid hcb
    have hi' : (i : Int) < (l.length : Int) := by omega
    clear h hn hr hf hd hcb
    go_enter Tryz.func34, Tryz.ntmps34
    go_upto_if 19 with (go_at_call 93; (with_reducible refine HF.out.mono ?_); rintro e w2 ⟨rfl, q⟩; have HQ := Lib.hid (below_new q); clear q)
    go_cut [10] (fun s10 wx => s10 = .int .i64 n ∧ Below w.heap.size w wx)
    case first =>
      by_cases hic : i < ch.length
      · have hic' : (i : Int) < (ch.length : Int) := by omega
        obtain ⟨bb, o, cap', hs, _, _, hrg⟩ := (HC.out.step HQ.out).at (by omega)
        obtain ⟨hs1, hs2⟩ : ac = some ⟨bb, o, none⟩ ∧ cc = cap' := by
          injection hs with h1 h2 h3
          exact ⟨h1, h3⟩
        subst hs1
        subst hs2
        have k0 := vcell hrg i hic
        have HNi := Lib.hid (HN.out.symm.trans (times_in hic))
        obtain ⟨x, hx⟩ : ∃ x, ch.getD i 0 = x := ⟨_, rfl⟩
        rw [hx] at k0 HNi
        clear hx hs hrg
        go_wp2_with fail
        go_meet
        exact ⟨by rw [HNi.out], HQ.out⟩
      · have hic' : ¬ (i : Int) < (ch.length : Int) := by omega
        have HNi := Lib.hid (HN.out.symm.trans (times_out hic))
        go_wp2_with fail
        go_meet
        exact ⟨by rw [HNi.out], HQ.out⟩
    case rest =>
      obtain ⟨rfl, hB⟩ := hcut
      have HB := Lib.hid hB
      have HVx := Lib.hid (HV.out.step hB)
      have HEx := Lib.hid (HE.out.step hB)
      clear hB HQ HE HV HF
      obtain ⟨bb, o, cap', hs, _, _, hrg⟩ := HVx.out.1.at (by omega)
      obtain ⟨hs1, hs2⟩ : ao = some ⟨bb, o, none⟩ ∧ cap = cap' := by
        injection hs with h1 h2 h3
        exact ⟨h1, h3⟩
      subst hs1
      subst hs2
      obtain ⟨k0, k1, k2, k3, k4, k5, k6⟩ := Rets.seven hrg HRr.out
      obtain ⟨ok1, ok2, ok3, ok4⟩ := (HVx.out.2 r (mem_at HRr.out)).2
      clear HRr
      obtain ⟨ev, names, itv, most, neg, dig, ex, mx⟩ := r
      dsimp only at k0 k1 k2 k3 k4 k5 k6 ok1 ok2 ok3 ok4 HDl HR
      clear hs hrg k0
      by_cases hm : most ≤ n
      · rw [if_pos hm] at HR
        go_wp2
        go_ret3
        have := HR.out
        obtain ⟨rfl, h2⟩ := Prod.mk.inj this
        obtain ⟨rfl, rfl⟩ := Prod.mk.inj h2
        exact ⟨rfl, HB.out⟩
      · rw [if_neg hm] at HR
        have hm' : n < most := by omega
        obtain ⟨dd, hdd⟩ : ∃ dd, delayP itv (neg, dig, ex) (n + 1) mx = dd := ⟨_, rfl⟩
        rw [hdd] at HR
        have HD := Lib.hid (fun w => Delay_any itv neg dig ex (n + 1) mx dd w hdd HDl.out ok3 ok1.1 ok1.2 (by omega) (by omega) ok4.1 ok4.2)
        have hw : IntKind.i64.wrap (n + 1) = n + 1 := IntWalk.i64_in _ (by omega)
        clear hdd ok1 ok2 ok3 ok4
        go_wp2_with fail
        go_region_held3 (fun w' => Below wc.heap.size wc w' ∧ w'.cell? ⟨bb, o + i * 7 + 1, none⟩ = some (.int .i64 itv) ∧ w'.cell? ⟨bb, o + i * 7 + 3, none⟩ = some (.bool neg) ∧ w'.cell? ⟨bb, o + i * 7 + 4, none⟩ = some (str dig) ∧ w'.cell? ⟨bb, o + i * 7 + 5, none⟩ = some (.int .i64 ex) ∧ w'.cell? ⟨bb, o + i * 7 + 6, none⟩ = some (.int .i64 mx))
          (first
            | exact ⟨(Below.refl _ _).drew, k1, k3, k4, k5, k6⟩
            | exact keep5 (by assumption) b1
            | go_keep)
          ((go_at_call 54; (with_reducible refine (HD.out _ (HEx.out.step (Below.refl _ _).drew)).mono ?_); rintro r w1 ⟨rfl, b1⟩; have HK := Lib.hid (HB.out.trans (((Below.refl _ _).drew.trans b1).mono HB.out.size))))
        go_wp2
        go_ret3
        have := HR.out
        obtain ⟨rfl, h2⟩ := Prod.mk.inj this
        obtain ⟨rfl, rfl⟩ := Prod.mk.inj h2
        exact ⟨rfl, HK.out⟩
  · rw [retry_none hf] at h
    rw [place_none hf] at HF
    obtain ⟨rfl, h2⟩ := Prod.mk.inj h
    obtain ⟨rfl, rfl⟩ := Prod.mk.inj h2
    clear hf h h2
    go_enter Tryz.func34, Tryz.ntmps34
    go_wp2_with (go_at_call 93; (with_reducible refine HF.out.mono ?_); rintro e w2 ⟨rfl, q⟩; have HQ := Lib.hid (below_new q); clear q)
    go_ret3
    exact ⟨rfl, HQ.out⟩
end Go.Proofs.YtflknoaihkhciaaGreatDoor

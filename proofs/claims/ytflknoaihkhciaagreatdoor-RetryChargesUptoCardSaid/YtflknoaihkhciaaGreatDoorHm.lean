/- What the cards of layer 10 share: the tables and strconv's error out of the variables that are laid; lists of numbers, of retriers, of catchers that came in, opened; the last step. -/
import Derived.Test.YtflknoaihkhciaaGreatDoorHg
import Derived.Test.YtflknoaihkhciaaGreatDoorGv
import Derived.Test.YtflknoaihkhciaaGreatDoorCards
import Derived.Test.YtflknoaihkhciaaGreatDoorTie
import Derived.ProofKit
import Derived.OpenShut
import Derived.LaidMore
import Derived.Lay
import Derived.Below
import Derived.ChangeSame
import Derived.Deep.DeepHandedRow
import Derived.Stop.Joined
import Derived.SevenTiedAt
import Derived.LaidSub
import Derived.MakeChecks
import Derived.LaidLaws
import Derived.Lib.LaidU8
import Derived.ChangeMaps5
import Derived.Deep.Slices
import Derived.Deep.Fields
import Derived.SliceStrings
import Derived.ChangeSlices
namespace Go.Proofs.YtflknoaihkhciaaGreatDoor
open Go.ChangeShapes Go.WideShapes Go.ChangeAt Go.RowKit Go.Deep

theorem own : ownKnob Tryz.prog.godebug = none := by kernel_rfl
theorem laidOut : laidOutB Tryz.prog = true := by kernel_rfl
theorem cellsE : Tryz.prog.cellsOf 298 = 1 := by kernel_rfl
theorem cellsS : Tryz.prog.cellsOf 9 = 1 := by kernel_rfl
theorem cellsI : Tryz.prog.cellsOf 3 = 1 := by kernel_rfl
theorem cellsBo : Tryz.prog.cellsOf 4 = 1 := by kernel_rfl
theorem cellsSS : Tryz.prog.cellsOf 61 = 1 := by kernel_rfl
theorem cellsSt : Tryz.prog.cellsOf 34 = 1 := by kernel_rfl
theorem cellsD : Tryz.prog.cellsOf 23 = 3 := by kernel_rfl
theorem cellsP : Tryz.prog.cellsOf 36 = 4 := by kernel_rfl
theorem cellsR : Tryz.prog.cellsOf 68 = 7 := by kernel_rfl
theorem cellsC : Tryz.prog.cellsOf 77 = 6 := by kernel_rfl
theorem starE : "*" ++ "errors.errorString" = "*errors.errorString" := by decide
theorem rowE (u : TypeId) (h : Tryz.prog.typeName? 3 u = some "*errors.errorString") : u = 296 :=
  typeName_ptr_named (nm := "errors.errorString") (by rw [starE]; kernel_rfl) (by kernel_rfl) (by decide) u (by rw [starE]; exact h)
theorem u8x : U8Extra Tryz.prog Tryz.lays260_ren := ⟨by kernel_rfl, by kernel_rfl, by kernel_rfl, by kernel_rfl, by kernel_rfl, by kernel_rfl, by kernel_rfl⟩
theorem first_is : Rows.laid_unicode_utf8_first = Lib.firstData := by kernel_rfl
theorem accept_is : (Rows.laid_unicode_utf8_acceptRanges : DataW Unit) = Lib.acceptData := by kernel_rfl
def isTab (x : String × DataW Unit) : Bool := x.1 == "unicode/utf8.acceptRanges" || x.1 == "unicode/utf8.first"
theorem gPowType : (Tryz.prog.globals[5]?).map (·.type) = some 265 := by kernel_rfl
theorem cellsU : Tryz.prog.cellsOf 162 = 1 := by kernel_rfl
theorem cellsT : Tryz.prog.cellsOf 265 = 20 := by kernel_rfl
def isPow (x : String × DataW Unit) : Bool := x.1 == "internal/strconv.uint64pow10"
theorem gRng : Tryz.prog.globalNamed "strconv.ErrRange" = some 10 := by kernel_rfl
theorem gRngType : (Tryz.prog.globals[10]?).map (·.type) = some 26 := by kernel_rfl
def isRng (x : String × DataW Unit) : Bool := x.1 == "strconv.ErrRange"
set_option maxRecDepth 100000 in
theorem envD_of_laid {L : List (String × DataW Unit)} (h1 : L.filter isRng = [("strconv.ErrRange", Rows.laid_strconv_ErrRange)]) (h2 : L.filter isTab = [("unicode/utf8.acceptRanges", Rows.laid_unicode_utf8_acceptRanges), ("unicode/utf8.first", Rows.laid_unicode_utf8_first)])
    (h3 : L.filter isPow = [("internal/strconv.uint64pow10", Rows.laid_internal_strconv_uint64pow10)]) {W : World} (h : laidMetH Tryz.prog L W) : EnvD W := by
  have k1 := h.filter isRng
  have k2 := h.filter isTab
  have k3 := h.filter isPow
  rw [h1, MakeChecks.laidMetH_plain _ _ _ (by kernel_rfl)] at k1
  rw [h2, MakeChecks.laidMetH_plain _ _ _ (by kernel_rfl)] at k2
  rw [h3, MakeChecks.laidMetH_plain _ _ _ (by kernel_rfl)] at k3
  have ht := utf8Tabs_of_reads Tryz.lays260 u8x (first_is ▸ Lib.laidMet.reads k2 (.tail _ (.head _))) (accept_is ▸ Lib.laidMet.reads k2 (.head _))
  refine ⟨ht, Lib.tabIs_of_head (rest := []) gPow gPowType Tryz.underlying265 Tryz.underlying162 cellsU cellsT k3, ?_⟩
  obtain ⟨ps, ⟨g0, t0, cs0, f0, p0, q0, hg0, ht0, hv0, hd0, hq0, e0⟩, hnd, hrows⟩ := k1
  obtain rfl := Option.some.inj (gRng.symm.trans hg0)
  obtain rfl := Option.some.inj (gRngType.symm.trans ht0)
  have hq0' : q0 = [] := hq0
  subst hq0'
  subst e0
  obtain ⟨l0⟩ := cs0
  have ok0 : ∀ u v, l0 = [.iface u v] → Value.okWide Tryz.prog W .any 0 u v := fun u v e => by
    subst e
    exact (hrows 10 0 (by simp [MemPlace.row])).2 u v (by simpa using World.var?_cell hg0 hv0 0)
  obtain ⟨a0, s0, rfl, hc0, hs0, hz0, rfl⟩ := errorString_of_trod Tryz.underlying26 rowE Tryz.underlying296 Tryz.underlying298 rfl rfl Tryz.underlying9 cellsE cellsS hd0 ok0
  exact ⟨_, by simpa using World.var?_cell hg0 hv0 0, .inr ⟨_, _, rfl⟩⟩
noncomputable def WF (os : Os) (L : List (String × DataW Unit)) : World := World.laidAll Tryz.prog os L
/-- The last step of each row here: the call returned true, and left what was there as it was; its arguments are read again. -/
theorem post_true {H : Type} {enc : TypeId × Value → H} {f : Func} {s : ChangeSpec} {W W' : World} {args : Array Value} {ds : List (DataW H)} {pa : List MemPlace} (hr : f.resultTypes = #[4]) (hv : s.vars = [])
    (hW : DataW.Whole enc Tryz.prog f.params.toList s.vars false W args.toList ds [] pa) (hs : s.fn H (ds ++ []) = { results := [.lit (.bool true)], args := ds }) (hb : Below W.heap.size W W')
    (hargs : DataW.TrodAll enc Tryz.prog W' 0 (fun b => decide (b < W.heap.size)) true f.params.toList args.toList ds pa) :
    s.post enc Tryz.prog f false true false false W args (.bool true) W' := by
  refine ⟨ds, [], pa, [], pa, [], hW, ?_, ?_, ?_, ?_, fun h => by cases h⟩
  · rw [hs, hr]; exact trodAll_cons_mk (shut_bool Tryz.underlying4 _) trodAll_mk0
  · rw [hs]; exact hargs
  · rw [hs, hv]; rfl
  · exact World.keptBut_mono (fun p hp => ⟨hp, .inr (by simpa using hp)⟩) (hb.frame (· ∈ pa))
theorem plain_at {W : World} {a : Addr} {v : Value} (h : W.cell? (a.add 0) = some v) : ∃ b o, a = ⟨b, o, none⟩ := by
  obtain ⟨b, o, spot⟩ := a
  have hspot : spot = none := by simpa [Addr.add] using World.cell?_spot h
  subst hspot
  exact ⟨b, o, rfl⟩
theorem bulk_app {H : Type} (a b : List (DataW H)) : Rows.uptoBulkAll (a ++ b) = Rows.uptoBulkAll a + Rows.uptoBulkAll b := by
  induction a with
  | nil => simp [Rows.uptoBulkAll]
  | cons d r ih => rw [List.cons_append, Rows.uptoBulkAll, Rows.uptoBulkAll, ih]; omega
set_option maxRecDepth 100000 in
/-- AN ARGUMENT OF TYPE []int, OPENED, nil OR NOT. -/
theorem open_numbers {H : Type} {enc : TypeId × Value → H} {W : World} {base : Nat} {held : Bool} {v : Value} {d : DataW H} {p : List MemPlace} (hv : Value.okWide Tryz.prog W .any base 65 v) (h : DataW.Trod enc Tryz.prog W base (fun _ => true) held 65 v d p) :
    ∃ l : List Int, Ints W v l ∧ (∀ x ∈ l, -9223372036854775808 ≤ x ∧ x ≤ 9223372036854775807) ∧ l.length ≤ Rows.uptoBulk d := by
  obtain ⟨a0, len, cap, rfl⟩ := okWide_slice Tryz.underlying65 hv
  obtain ⟨fuel, hf⟩ := h
  rcases open_ints Tryz.underlying65 Tryz.underlying3 cellsI hf with ⟨hcs, hx⟩ | ⟨a, len', cap', zs, hcs, _, hl, hm, hz, hx, hcell, hwz⟩
  · simp [Value.cells] at hcs
    obtain ⟨rfl, rfl, rfl⟩ := hcs
    exact ⟨[], Sl.nil _ _, (fun x hx => by cases hx), Nat.zero_le _⟩
  · simp [Value.cells] at hcs
    obtain ⟨rfl, rfl, rfl⟩ := hcs
    simp only [if_true] at hz
    have hlen : (zs.take len).length = len := by rw [List.length_take]; omega
    refine ⟨zs.take len, ?_, fun x hx => bounds_i64 (hwz x (List.mem_of_mem_take hx)), ?_⟩
    · unfold Ints
      rw [hlen]
      refine ⟨some a, cap, rfl, hl, hm, by simp; omega, ?_⟩
      rcases Nat.eq_zero_or_pos cap with h0 | h0
      · exact .inl h0
      · obtain ⟨b, o, rfl⟩ := plain_at (hcell 0 (by omega))
        refine .inr ⟨b, o, rfl, fun j u hj => ?_⟩
        rw [List.getElem?_map, List.getElem?_take] at hj
        split at hj
        · have hjz : j < zs.length := by omega
          rw [List.getElem?_eq_getElem hjz] at hj
          have hu : u = vi zs[j] := by simpa using hj.symm
          have := hcell j hjz
          rw [Addr.add_mid, List.getD_eq_getElem?_getD, List.getElem?_eq_getElem hjz] at this
          rw [hu]; exact this
        · simp at hj
    · have hd : d = .slice (lits .i64 (zs.take len)) (lits .i64 (zs.drop len)) := congrArg Prod.fst hx
      rw [hd, hlen]
      have : ∀ ys : List Int, ys.length ≤ Rows.uptoBulkAll (lits .i64 ys : List (DataW H)) := fun ys => by
        induction ys with
        | nil => exact Nat.zero_le _
        | cons y ys ih => unfold lits at ih ⊢; rw [List.map_cons, Rows.uptoBulkAll, List.length_cons]; have : Rows.uptoBulk (.lit (.int .i64 y) : DataW H) = 1 := rfl; omega
      have h2 := this (zs.take len)
      rw [hlen] at h2
      rw [Rows.uptoBulk]
      omega
theorem heft_bulk {H : Type} (ss : List ByteArray) : heft (ss.map fun s => s.data.toList) ≤ Rows.uptoBulkAll (strs ss : List (DataW H)) := by
  induction ss with
  | nil => exact Nat.zero_le _
  | cons s ss ih =>
    unfold strs at ih ⊢
    rw [List.map_cons, List.map_cons, Rows.uptoBulkAll]
    unfold heft
    have : Rows.uptoBulk (.lit (.string s.data.toList) : DataW H) = s.data.toList.length + 1 := rfl
    omega
theorem str_back (s : ByteArray) : str s.data.toList = .string s := by cases s; rfl
set_option maxRecDepth 100000 in
/-- A list of texts, as it lies in a cell. -/
theorem strs_of_trod {H : Type} {enc : TypeId × Value → H} {W : World} {base fuel : Nat} {held : Bool} {c : Value} {y : DataW H × List MemPlace} (h : DataW.trod enc Tryz.prog W base (fun _ => true) held fuel 61 [c] = some y) :
    ∃ names : List (List UInt8), Strs W c names ∧ heft names ≤ Rows.uptoBulk y.1 := by
  rcases open_strings Tryz.underlying61 Tryz.underlying9 cellsS h with ⟨hcs, hx⟩ | ⟨a, len, cap, ss, hcs, _, hl, hm, hz, hx, hcell, _⟩
  · obtain rfl : c = .slice none 0 0 := by simpa using hcs
    exact ⟨[], ⟨none, 0, rfl, Nat.le_refl _, Nat.zero_le _, .inl rfl⟩, Nat.zero_le _⟩
  · obtain rfl : c = .slice (some a) len cap := by simpa using hcs
    simp only [if_true] at hz
    have hlen : ((ss.take len).map fun s => s.data.toList).length = len := by rw [List.length_map, List.length_take]; omega
    refine ⟨(ss.take len).map fun s => s.data.toList, ⟨some a, cap, by rw [hlen], by omega, hm, ?_⟩, ?_⟩
    · rcases Nat.eq_zero_or_pos cap with h0 | h0
      · exact .inl h0
      · obtain ⟨b, o, rfl⟩ := plain_at (hcell 0 (by omega))
        refine .inr ⟨b, o, rfl, fun j u hj => ?_⟩
        rw [List.map_map, List.getElem?_map, List.getElem?_take] at hj
        split at hj
        · have hjz : j < ss.length := by omega
          rw [List.getElem?_eq_getElem hjz] at hj
          have hu : u = str ss[j].data.toList := by simpa using hj.symm
          have := hcell j hjz
          rw [Addr.add_mid, List.getD_eq_getElem?_getD, List.getElem?_eq_getElem hjz] at this
          rw [hu, str_back]; exact this
        · simp at hj
    · rw [hx, Rows.uptoBulk]
      have := heft_bulk (H := H) (ss.take len)
      omega
/-- A list out of its elements. -/
theorem list_of {α : Type} {P : Nat → α → Prop} : ∀ (m : Nat), (∀ i, i < m → ∃ r, P i r) → ∃ l : List α, l.length = m ∧ ∀ i r, l[i]? = some r → P i r
  | 0, _ => ⟨[], rfl, fun i r h => by simp at h⟩
  | m + 1, h => by
    obtain ⟨l, hl, hp⟩ := list_of m fun i hi => h i (by omega)
    obtain ⟨r, hr⟩ := h m (by omega)
    refine ⟨l ++ [r], by simp [hl], fun i x hx => ?_⟩
    by_cases hi : i < l.length
    · rw [List.getElem?_append_left hi] at hx; exact hp i x hx
    · rw [List.getElem?_append_right (by omega)] at hx
      by_cases he : i - l.length = 0
      · rw [he] at hx
        obtain rfl : r = x := by simpa using hx
        rw [show i = m by omega]; exact hr
      · rw [List.getElem?_eq_none (by simp; omega)] at hx; cases hx
/-- The cells of a list of structs. -/
theorem range_flat {α : Type} {W : World} {b o s m : Nat} {f : α → List Value} {l : List α} (hs : 0 < s) (hf : ∀ a ∈ l, (f a).length = s) (_hm : l.length = m)
    (h : ∀ i r, l[i]? = some r → ∀ k v, (f r)[k]? = some v → W.cell? ⟨b, o + (i * s + k), none⟩ = some v) : W.rangeAt b o (l.flatMap f) := fun j u hj => by
  have hjl : j < l.length * s := by rw [← flat_len l hf]; exact (List.getElem?_eq_some_iff.1 hj).1
  have hi : j / s < l.length := Nat.div_lt_of_lt_mul (by rw [Nat.mul_comm]; exact hjl)
  have hr : l[j / s]? = some l[j / s] := List.getElem?_eq_getElem hi
  have he : j / s * s + j % s = j := by rw [Nat.mul_comm]; exact Nat.div_add_mod j s
  have := flat_at l (j / s) (j % s) _ hf hr (Nat.mod_lt _ hs)
  rw [he, hj] at this
  have h2 := h _ _ hr _ _ this.symm
  rwa [he] at h2
theorem heftR_bulk {H : Type} : ∀ (l : List Rt) (ds : List (DataW H)), l.length = ds.length → (∀ (i : Nat) (r : Rt) (d : DataW H), l[i]? = some r → ds[i]? = some d → heft r.names + 1 + r.dig.length ≤ Rows.uptoBulk d) → heftR l ≤ Rows.uptoBulkAll ds
  | [], _, _, _ => Nat.zero_le _
  | r :: l, [], h, _ => by cases h
  | r :: l, d :: ds, h, hp => by
    have h0 := hp 0 r d rfl rfl
    have := heftR_bulk l ds (by simpa using h) fun i r d hr hd => hp (i + 1) r d (by simpa using hr) (by simpa using hd)
    unfold heftR
    rw [Rows.uptoBulkAll]
    omega
theorem heftC_bulk {H : Type} : ∀ (l : List Ct) (ds : List (DataW H)), l.length = ds.length → (∀ (i : Nat) (r : Ct) (d : DataW H), l[i]? = some r → ds[i]? = some d → heft r.names + 1 ≤ Rows.uptoBulk d) → heftC l ≤ Rows.uptoBulkAll ds
  | [], _, _, _ => Nat.zero_le _
  | r :: l, [], h, _ => by cases h
  | r :: l, d :: ds, h, hp => by
    have h0 := hp 0 r d rfl rfl
    have := heftC_bulk l ds (by simpa using h) fun i r d hr hd => hp (i + 1) r d (by simpa using hr) (by simpa using hd)
    unfold heftC
    rw [Rows.uptoBulkAll]
    omega
theorem seven_of {α : Type} {l : List α} (h : l.length = 7) : ∃ a b c d e f g, l = [a, b, c, d, e, f, g] := by
  match l, h with
  | [a, b, c, d, e, f, g], _ => exact ⟨a, b, c, d, e, f, g, rfl⟩
theorem six_of {α : Type} {l : List α} (h : l.length = 6) : ∃ a b c d e f, l = [a, b, c, d, e, f] := by
  match l, h with
  | [a, b, c, d, e, f], _ => exact ⟨a, b, c, d, e, f, rfl⟩
theorem five_of {α : Type} {l : List α} (h : l.length = 5) : ∃ a b c d e, l = [a, b, c, d, e] := by
  match l, h with
  | [a, b, c, d, e], _ => exact ⟨a, b, c, d, e, rfl⟩
theorem four_of {α : Type} {l : List α} (h : l.length = 4) : ∃ a b c d, l = [a, b, c, d] := by
  match l, h with
  | [a, b, c, d], _ => exact ⟨a, b, c, d, rfl⟩
theorem three_of {α : Type} {l : List α} (h : l.length = 3) : ∃ a b c, l = [a, b, c] := by
  match l, h with
  | [a, b, c], _ => exact ⟨a, b, c, rfl⟩
set_option maxRecDepth 100000 in
/-- A retrier, as it lies in its cells. -/
theorem rt_of_trod {H : Type} {enc : TypeId × Value → H} {W : World} {base n : Nat} {held : Bool} {cs : List Value} {x : DataW H × List MemPlace} (h : DataW.trod enc Tryz.prog W base (fun _ => true) held n 68 cs = some x) :
    ∃ r : Rt, cs = r.cells ∧ Strs W r.ev r.names ∧ r.ok ∧ heft r.names + 1 + r.dig.length ≤ Rows.uptoBulk x.1 := by
  obtain ⟨xs, n', _, hx, hlen, hxl, hf⟩ := DataW.trod_struct Tryz.underlying68 h
  rw [cellsR] at hlen
  obtain ⟨c0, c1, c2, c3, c4, c5, c6, rfl⟩ := seven_of hlen
  obtain ⟨y0, y1, y2, y3, y4, rfl⟩ := five_of hxl
  have h0 : DataW.trod enc Tryz.prog W base (fun _ => true) held n' 61 [c0] = some y0 := by simpa [cellsSS] using hf 0 _ rfl
  have h1 : DataW.trod enc Tryz.prog W base (fun _ => true) held n' 3 [c1] = some y1 := by simpa [cellsI] using hf 1 _ rfl
  have h2 : DataW.trod enc Tryz.prog W base (fun _ => true) held n' 3 [c2] = some y2 := by simpa [cellsI] using hf 2 _ rfl
  have h3 : DataW.trod enc Tryz.prog W base (fun _ => true) held n' 23 [c3, c4, c5] = some y3 := by simpa [cellsD] using hf 3 _ rfl
  have h4 : DataW.trod enc Tryz.prog W base (fun _ => true) held n' 3 [c6] = some y4 := by simpa [cellsI] using hf 4 _ rfl
  clear hf
  obtain ⟨names, hs, hb⟩ := strs_of_trod h0
  obtain ⟨i1, e1, rfl, w1⟩ := DataW.trod_int Tryz.underlying3 h1
  obtain ⟨i2, e2, rfl, w2⟩ := DataW.trod_int Tryz.underlying3 h2
  obtain ⟨i4, e4, rfl, w4⟩ := DataW.trod_int Tryz.underlying3 h4
  obtain ⟨zs, n'', _, hz, _, hzl, hg⟩ := DataW.trod_struct Tryz.underlying23 h3
  obtain ⟨z0, z1, z2, rfl⟩ := three_of hzl
  have g0 : DataW.trod enc Tryz.prog W base (fun _ => true) held n'' 4 [c3] = some z0 := by simpa [cellsBo] using hg 0 _ rfl
  have g1 : DataW.trod enc Tryz.prog W base (fun _ => true) held n'' 9 [c4] = some z1 := by simpa [cellsS] using hg 1 _ rfl
  have g2 : DataW.trod enc Tryz.prog W base (fun _ => true) held n'' 3 [c5] = some z2 := by simpa [cellsI] using hg 2 _ rfl
  clear hg
  obtain ⟨b0, f0, rfl⟩ := DataW.trod_bool Tryz.underlying4 g0
  obtain ⟨b1, f1, rfl, _⟩ := DataW.trod_string Tryz.underlying9 g1
  obtain ⟨b2, f2, rfl, w5⟩ := DataW.trod_int Tryz.underlying3 g2
  simp at e1 e2 e4 f0 f1 f2
  subst e1 e2 e4 f0 f1 f2
  refine ⟨⟨c0, names, i1, i2, b0, b1.data.toList, b2, i4⟩, ?_, hs, ⟨bounds_i64 w1, bounds_i64 w2, bounds_i64 w5, bounds_i64 w4⟩, ?_⟩
  · show _ = [c0, Value.int .i64 i1, .int .i64 i2, .bool b0, str b1.data.toList, .int .i64 b2, .int .i64 i4]
    rw [str_back]
  · subst hx
    subst hz
    simp only [List.map_cons, List.map_nil, Rows.uptoBulk, Rows.uptoBulkAll]
    omega
set_option maxRecDepth 100000 in
/-- A catcher, as it lies in its cells. -/
theorem ct_of_trod {H : Type} {enc : TypeId × Value → H} {W : World} {base n : Nat} {held : Bool} {cs : List Value} {x : DataW H × List MemPlace} (h : DataW.trod enc Tryz.prog W base (fun _ => true) held n 77 cs = some x) :
    ∃ r : Ct, cs = r.cells ∧ Strs W r.ev r.names ∧ heft r.names + 1 ≤ Rows.uptoBulk x.1 := by
  obtain ⟨xs, n', _, hx, hlen, hxl, hf⟩ := DataW.trod_struct Tryz.underlying77 h
  rw [cellsC] at hlen
  obtain ⟨c0, c1, c2, c3, c4, c5, rfl⟩ := six_of hlen
  obtain ⟨y0, y1, y2, rfl⟩ := three_of hxl
  have h0 : DataW.trod enc Tryz.prog W base (fun _ => true) held n' 61 [c0] = some y0 := by simpa [cellsSS] using hf 0 _ rfl
  have h1 : DataW.trod enc Tryz.prog W base (fun _ => true) held n' 36 [c1, c2, c3, c4] = some y1 := by simpa [cellsP] using hf 1 _ rfl
  have h2 : DataW.trod enc Tryz.prog W base (fun _ => true) held n' 9 [c5] = some y2 := by simpa [cellsS] using hf 2 _ rfl
  clear hf
  obtain ⟨names, hs, hb⟩ := strs_of_trod h0
  obtain ⟨s2, e2, rfl, _⟩ := DataW.trod_string Tryz.underlying9 h2
  obtain ⟨zs, n'', _, hz, _, hzl, hg⟩ := DataW.trod_struct Tryz.underlying36 h1
  obtain ⟨z0, z1, z2, z3, rfl⟩ := four_of hzl
  have g0 : DataW.trod enc Tryz.prog W base (fun _ => true) held n'' 4 [c1] = some z0 := by simpa [cellsBo] using hg 0 _ rfl
  have g1 : DataW.trod enc Tryz.prog W base (fun _ => true) held n'' 4 [c2] = some z1 := by simpa [cellsBo] using hg 1 _ rfl
  have g2 : DataW.trod enc Tryz.prog W base (fun _ => true) held n'' 4 [c3] = some z2 := by simpa [cellsBo] using hg 2 _ rfl
  have g3 : DataW.trod enc Tryz.prog W base (fun _ => true) held n'' 34 [c4] = some z3 := by simpa [cellsSt] using hg 3 _ rfl
  clear hg
  obtain ⟨b0, f0, rfl⟩ := DataW.trod_bool Tryz.underlying4 g0
  obtain ⟨b1, f1, rfl⟩ := DataW.trod_bool Tryz.underlying4 g1
  obtain ⟨b2, f2, rfl⟩ := DataW.trod_bool Tryz.underlying4 g2
  obtain ⟨sa, sn, sc, f3⟩ : ∃ sa sn sc, c4 = .slice sa sn sc := by
    rcases DataW.trod_slice Tryz.underlying34 g3 with ⟨e, _⟩ | ⟨a, len, cap, _, _, _, _, e, _⟩
    · exact ⟨none, 0, 0, by simpa using e⟩
    · exact ⟨some a, len, cap, by simpa using e⟩
  simp at e2 f0 f1 f2
  subst e2 f0 f1 f2 f3
  refine ⟨⟨c0, names, b0, b1, b2, sa, sn, sc, s2.data.toList⟩, ?_, hs, ?_⟩
  · show _ = [c0, Value.bool b0, .bool b1, .bool b2, .slice sa sn sc, str s2.data.toList]
    rw [str_back]
  · subst hx
    simp only [List.map_cons, List.map_nil, Rows.uptoBulk, Rows.uptoBulkAll]
    omega
set_option maxRecDepth 100000 in
/-- AN ARGUMENT OF TYPE []Retrier, OPENED. -/
theorem open_retriers {H : Type} {enc : TypeId × Value → H} {W : World} {base : Nat} {held : Bool} {v : Value} {d : DataW H} {p : List MemPlace} (hv : Value.okWide Tryz.prog W .any base 64 v) (h : DataW.Trod enc Tryz.prog W base (fun _ => true) held 64 v d p) :
    ∃ l : List Rt, Rets W v l ∧ heftR l ≤ Rows.uptoBulk d := by
  obtain ⟨a0, len0, cap0, rfl⟩ := okWide_slice Tryz.underlying64 hv
  obtain ⟨fuel, hf⟩ := h
  rcases open_slice Tryz.underlying64 hf with ⟨hcs, _⟩ | ⟨a, len, cap, m, n, D, Pl, hcs, _, hl, hm, hmm, hx, hi⟩
  · simp [Value.cells] at hcs
    obtain ⟨rfl, rfl, rfl⟩ := hcs
    exact ⟨[], ⟨Sl.nil _ _, (fun r hr => by cases hr)⟩, Nat.zero_le _⟩
  · simp [Value.cells] at hcs
    obtain ⟨rfl, rfl, rfl⟩ := hcs
    simp only [if_true] at hmm
    subst hmm
    rw [cellsR] at hi
    have hP : ∀ i, i < m → ∃ r : Rt, (∀ k v, r.cells[k]? = some v → W.cell? ((a.add (i * 7)).add k) = some v) ∧ Strs W r.ev r.names ∧ r.ok ∧ heft r.names + 1 + r.dig.length ≤ Rows.uptoBulk (D i) := fun i hi' => by
      obtain ⟨cs', hc, ht⟩ := hi i hi'
      obtain ⟨_, hcl, hat⟩ := World.cells?_some hc
      obtain ⟨r, rfl, h1, h2, h3⟩ := rt_of_trod ht
      exact ⟨r, fun k v hk => (hat k (by have := (List.getElem?_eq_some_iff.1 hk).1; rw [← hcl]; exact this)).trans hk, h1, h2, h3⟩
    obtain ⟨l, hll, hp⟩ := list_of len0 fun i hi' => hP i (by omega)
    refine ⟨l, ⟨⟨some a, m, by rw [hll], by omega, hm, flat_len l (rt_len l), ?_⟩, fun r hr => ?_⟩, ?_⟩
    · rcases Nat.eq_zero_or_pos m with h0 | h0
      · exact .inl h0
      · obtain ⟨r, hr, _⟩ := hP 0 h0
        obtain ⟨b', o', spot⟩ := a
        have hspot : spot = none := by simpa [Addr.add] using World.cell?_spot (hr 0 _ rfl)
        subst hspot
        refine .inr ⟨b', o', rfl, range_flat (m := len0) (by decide) (rt_len l) hll fun i r hr k v hk => ?_⟩
        have := (hp i r hr).1 k v hk
        rw [Addr.add_mid, Addr.add_mid] at this
        rwa [← Nat.add_assoc]
    · obtain ⟨i, hi'⟩ := List.getElem?_of_mem hr
      exact ⟨(hp i r hi').2.1, (hp i r hi').2.2.1⟩
    · have hd : d = .slice ((List.range len0).map D) ((List.range (m - len0)).map fun j => D (len0 + j)) := congrArg Prod.fst hx
      have := heftR_bulk l ((List.range len0).map D) (by simp [hll]) fun i r d hr hd => by
        have hil : i < len0 := by rw [← hll]; exact (List.getElem?_eq_some_iff.1 hr).1
        rw [List.getElem?_map, List.getElem?_range hil] at hd
        have := (hp i r hr).2.2.2
        have hd' : D i = d := by simpa using hd
        rw [← hd']; exact this
      rw [hd, Rows.uptoBulk]
      omega
set_option maxRecDepth 100000 in
/-- AN ARGUMENT OF TYPE []Catcher, OPENED. -/
theorem open_catchers {H : Type} {enc : TypeId × Value → H} {W : World} {base : Nat} {held : Bool} {v : Value} {d : DataW H} {p : List MemPlace} (hv : Value.okWide Tryz.prog W .any base 74 v) (h : DataW.Trod enc Tryz.prog W base (fun _ => true) held 74 v d p) :
    ∃ l : List Ct, Cats W v l ∧ heftC l ≤ Rows.uptoBulk d := by
  obtain ⟨a0, len0, cap0, rfl⟩ := okWide_slice Tryz.underlying74 hv
  obtain ⟨fuel, hf⟩ := h
  rcases open_slice Tryz.underlying74 hf with ⟨hcs, _⟩ | ⟨a, len, cap, m, n, D, Pl, hcs, _, hl, hm, hmm, hx, hi⟩
  · simp [Value.cells] at hcs
    obtain ⟨rfl, rfl, rfl⟩ := hcs
    exact ⟨[], ⟨Sl.nil _ _, (fun r hr => by cases hr)⟩, Nat.zero_le _⟩
  · simp [Value.cells] at hcs
    obtain ⟨rfl, rfl, rfl⟩ := hcs
    simp only [if_true] at hmm
    subst hmm
    rw [cellsC] at hi
    have hP : ∀ i, i < m → ∃ r : Ct, (∀ k v, r.cells[k]? = some v → W.cell? ((a.add (i * 6)).add k) = some v) ∧ Strs W r.ev r.names ∧ heft r.names + 1 ≤ Rows.uptoBulk (D i) := fun i hi' => by
      obtain ⟨cs', hc, ht⟩ := hi i hi'
      obtain ⟨_, hcl, hat⟩ := World.cells?_some hc
      obtain ⟨r, rfl, h1, h3⟩ := ct_of_trod ht
      exact ⟨r, fun k v hk => (hat k (by have := (List.getElem?_eq_some_iff.1 hk).1; rw [← hcl]; exact this)).trans hk, h1, h3⟩
    obtain ⟨l, hll, hp⟩ := list_of len0 fun i hi' => hP i (by omega)
    refine ⟨l, ⟨⟨some a, m, by rw [hll], by omega, hm, flat_len l (ct_len l), ?_⟩, fun r hr => ?_⟩, ?_⟩
    · rcases Nat.eq_zero_or_pos m with h0 | h0
      · exact .inl h0
      · obtain ⟨r, hr, _⟩ := hP 0 h0
        obtain ⟨b', o', spot⟩ := a
        have hspot : spot = none := by simpa [Addr.add] using World.cell?_spot (hr 0 _ rfl)
        subst hspot
        refine .inr ⟨b', o', rfl, range_flat (m := len0) (by decide) (ct_len l) hll fun i r hr k v hk => ?_⟩
        have := (hp i r hr).1 k v hk
        rw [Addr.add_mid, Addr.add_mid] at this
        rwa [← Nat.add_assoc]
    · obtain ⟨i, hi'⟩ := List.getElem?_of_mem hr
      exact (hp i r hi').2.1
    · have hd : d = .slice ((List.range len0).map D) ((List.range (m - len0)).map fun j => D (len0 + j)) := congrArg Prod.fst hx
      have := heftC_bulk l ((List.range len0).map D) (by simp [hll]) fun i r d hr hd => by
        have hil : i < len0 := by rw [← hll]; exact (List.getElem?_eq_some_iff.1 hr).1
        rw [List.getElem?_map, List.getElem?_range hil] at hd
        have := (hp i r hr).2.2
        have hd' : D i = d := by simpa using hd
        rw [← hd']; exact this
      rw [hd, Rows.uptoBulk]
      omega
end Go.Proofs.YtflknoaihkhciaaGreatDoor

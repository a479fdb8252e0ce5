/-
  THE WALKS of what tells of a history: interval, Since, Acting, Intervals.
-/
import Derived.Test.YtmkpljbkmkbnjaaNew
import Derived.Test.YtmkpljbkmkbnjaaChain
namespace Go.Proofs.Ytmkpljbkmkbnjaa
open Go.RowKit
set_option linter.unusedVariables false
set_option linter.unusedSimpArgs false

abbrev zeroArr2 : Array Value := #[.int .u32 0, .slice none 0 0]
abbrev ivArr (s : Int) (av : Value) : Array Value := #[.int .u32 s, av]
theorem results50 : Try.f50.results = #[.cell 4 62] := by kernel_rfl
theorem size62 : (Try.prog.info? 62).map (·.size) = some 2 := by kernel_rfl
/-- what a group's last interval is -/
def lastIv (ms : List Sp.Mp) (g : Nat) : Int × List Nat := if g < 4 then (Sp.ivs ms g).getLast?.getD (0, []) else (0, [])
def IntervalPost (ms : List Sp.Mp) (g : Nat) (w : World) (e : Ending) (w' : World) : Prop :=
  ∃ av, e = .returned (.agg #[.int .u32 (lastIv ms g).1, av]) ∧ RowN w' 0 av (lastIv ms g).2 ∧ Upd Nix w w'
set_option maxRecDepth 10000 in
theorem interval_any (h a i : Nat) (v : Nat → Value) (ms : List Sp.Mp) (is : List Sp.Inc) (g : Nat) (hg : g < 256) (w : World) (H : HistAt w h a i v ms is) (hm : 0 < ms.length) (hm2 : ms.length ≤ 60) :
    Calls Try.prog 50 #[.pointer (some ⟨h, 0, none⟩), .int .u8 (g : Int)] w (IntervalPost ms g w) := by
  have hu1 : Upd Nix w (w.alloc (.cells zeroArr2 62)) := (Upd.refl Nix w).alloc _
  have hb1 : (w.alloc (.cells zeroArr2 62)).heap[w.heap.size]? = some (.cells zeroArr2 62 (0, 0)) := alloc_new w _
  have hc := H.keep0 hu1
  by_cases h4 : g < 4
  · have hgi : (g : Int) < 4 := by omega
    have hpos := Sp.ivs_pos ms g hm
    obtain ⟨⟨s, o⟩, hl⟩ : ∃ t, (Sp.ivs ms g).getLast? = some t := ⟨_, List.getLast?_eq_some_getLast (by intro e; rw [e] at hpos; simp at hpos)⟩
    obtain ⟨b, cap, av, hv, _, c0, c1, hr⟩ := (hc.iv g h4).last hl
    obtain ⟨q, hq⟩ : ∃ q, (Sp.ivs ms g).length = q + 1 := ⟨(Sp.ivs ms g).length - 1, by omega⟩
    rw [hq] at hv c0 c1
    simp only [Nat.add_sub_cancel] at c0 c1
    have hq6 : q ≤ 1000 := by have := Sp.ivs_len ms g; omega
    obtain ⟨aa, ac, rfl⟩ := row_nil hr
    have ch : (w.alloc (.cells zeroArr2 62)).cell? ⟨h, 3 + g, none⟩ = some (v g) := by rw [cell_blk hc.blk]; exact hArr_iv _ _ _ _ g h4
    rw [hv] at ch
    have hiv : lastIv ms g = (s, o) := by unfold lastIv; rw [if_pos h4, hl]; rfl
    have HR := hid hr; have HU := hid hu1; have HB := hid hb1; have HIV := hid hiv
    clear hr hu1 hb1 hc hl hv H hiv hpos hq
    go_enter Try.func50, Try.ntmps50
    go_upto_region 1 with (fail)
    change Code.wp _ _ _ _ (w.alloc (.cells zeroArr2 62))
    generalize w.alloc (.cells zeroArr2 62) = w1 at *
    go_wp2_with ((with_reducible refine at_store 62 (.tmp 4) (.tmp 20) ?_); refine wpList_store_row rfl 62 (.tmp 4) (.tmp 20) rfl w.heap.size rfl (ivArr s (.slice aa o.length ac)) rfl 62 zeroArr2 HB.out rfl size62 rfl ?_)
    refine fin1 results50 w.heap.size rfl (setRow_new (ivArr s (.slice aa o.length ac)) HB.out) Try.underlying62 rfl size62 rfl ?_
    refine ⟨.slice aa o.length ac, by rw [HIV.out], ?_, HU.out.setRow (.inr (Nat.le_refl _)) _⟩
    rw [HIV.out]
    refine row_keep HR.out (Upd.setRow (F := fun b => b = w.heap.size) (Upd.refl _ _) (.inl rfl) _) (fun b hb e => ?_)
    obtain ⟨_, cur, hc⟩ := row_blk HR.out hb
    subst e
    rw [HB.out] at hc; simp at hc
  · have hgi : (4 : Int) ≤ (g : Int) := by omega
    have hiv : lastIv ms g = (0, []) := by unfold lastIv; rw [if_neg h4]
    have HU := hid hu1; have HB := hid hb1; have HIV := hid hiv
    clear hu1 hb1 hc H hiv
    go_enter Try.func50, Try.ntmps50
    go_upto_region 1 with (fail)
    change Code.wp _ _ _ _ (w.alloc (.cells zeroArr2 62))
    generalize w.alloc (.cells zeroArr2 62) = w1 at *
    go_wp2_with ((with_reducible refine at_store 62 (.tmp 4) (.tmp 8) ?_); refine wpList_store_row rfl 62 (.tmp 4) (.tmp 8) rfl w.heap.size rfl zeroArr2 rfl 62 zeroArr2 HB.out rfl size62 rfl ?_)
    refine fin1 results50 w.heap.size rfl (setRow_new zeroArr2 HB.out) Try.underlying62 rfl size62 rfl ?_
    refine ⟨.slice none 0 0, by rw [HIV.out], ?_, HU.out.setRow (.inr (Nat.le_refl _)) _⟩
    rw [HIV.out]
    exact World.ownsRow_nil _ _ _ _

theorem nats_one (l : List Nat) : ∀ u ∈ natsV l, u.oneCell' = true := by
  intro u hu
  simp only [natsV, List.mem_map] at hu
  obtain ⟨o, _, rfl⟩ := hu
  rfl
theorem lastIv_len (ms : List Sp.Mp) (g : Nat) : (lastIv ms g).2.length ≤ 3 := by
  unfold lastIv
  split
  · cases hl : (Sp.ivs ms g).getLast? with
    | none => simp
    | some t => exact ivs_act_len ms g t (List.mem_of_getLast? hl)
  · simp
theorem fld0 (s : Int) (av : Value) (w : World) : (Instr.field 62 (.agg #[.int .u32 s, av]) 0).run Try.prog w = .ok (.int .u32 s) w := by kernel_rfl
theorem fld1 (s : Int) (av : Value) (w : World) : (Instr.field 62 (.agg #[.int .u32 s, av]) 1).run Try.prog w = .ok av w := by kernel_rfl
set_option maxRecDepth 10000 in
theorem since_any (h a i : Nat) (v : Nat → Value) (ms : List Sp.Mp) (is : List Sp.Inc) (g : Nat) (hg : g < 256) (w : World) (H : HistAt w h a i v ms is) (hm : 0 < ms.length) (hm2 : ms.length ≤ 60) :
    Calls Try.prog 23 #[.pointer (some ⟨h, 0, none⟩), .int .u8 (g : Int)] w fun e w' => e = .returned (.int .u32 (lastIv ms g).1) ∧ Upd Nix w w' := by
  have HC := hid (interval_any h a i v ms is g hg w H hm hm2)
  have F0 := fld0
  clear H
  go_enter Try.func23, Try.ntmps23
  go_wp2_with fail
  refine HC.out.mono ?_
  rintro e w1 ⟨av, rfl, hr, hu⟩
  obtain ⟨aa, ac, rfl⟩ := row_nil hr
  clear hr
  have HU := hid hu
  clear hu
  go_wp2_with fail
  go_ret
  exact ⟨rfl, HU.out⟩
def HActPost (ms : List Sp.Mp) (g : Nat) (w : World) (e : Ending) (w' : World) : Prop :=
  ∃ v, e = .returned v ∧ RowN w' w.heap.size v (lastIv ms g).2 ∧ Upd Nix w w'
set_option maxRecDepth 10000 in
theorem hacting_any (h a i : Nat) (v : Nat → Value) (ms : List Sp.Mp) (is : List Sp.Inc) (g : Nat) (hg : g < 256) (w : World) (H : HistAt w h a i v ms is) (hm : 0 < ms.length) (hm2 : ms.length ≤ 60) :
    Calls Try.prog 25 #[.pointer (some ⟨h, 0, none⟩), .int .u8 (g : Int)] w (HActPost ms g w) := by
  have HC := hid (interval_any h a i v ms is g hg w H hm hm2)
  have F1 := fld1
  clear H
  go_enter Try.func25, Try.ntmps25
  go_wp2_with fail
  refine HC.out.mono ?_
  rintro e w1 ⟨av, rfl, hr, hu⟩
  obtain ⟨aa, ac, rfl⟩ := row_nil hr
  have hcl := clone46_any _ _ 0 _ w1 hr (by have := lastIv_len ms g; omega) (nats_one _)
  have HCL := hid hcl
  have HU := hid hu
  clear hu hr hcl
  go_wp2_with fail
  refine HCL.out.mono ?_
  rintro e w2 ⟨nv, rfl, hr2, hu2⟩
  obtain ⟨na, nc, rfl⟩ := row_nil hr2
  have HR := hid hr2; have HU2 := hid hu2
  clear hr2 hu2
  go_wp2_with fail
  go_ret
  exact ⟨_, rfl, row_mono HR.out HU.out.size, HU.out.trans HU2.out⟩

theorem ivCells_one {w : World} {tl : List (Int × List Nat × Value)} (h : ∀ t ∈ tl, RowN w 0 t.2.2 t.2.1) : ∀ u ∈ ivCells tl, u.oneCell' = true := by
  intro u hu
  simp only [ivCells, List.mem_flatMap] at hu
  obtain ⟨t, ht, hu⟩ := hu
  obtain ⟨a, c, e⟩ := row_nil (h t ht)
  simp at hu
  rcases hu with rfl | rfl
  · rfl
  · rw [e]; rfl
theorem ivCells_set (l : List (Int × List Nat × Value)) (k : Nat) (t : Int × List Nat × Value) (nv : Value) (h : l[k]? = some t) : (ivCells l).set (k * 2 + 1) nv = ivCells (l.set k (t.1, t.2.1, nv)) := by
  induction l generalizing k with
  | nil => simp at h
  | cons x r ih =>
    cases k with
    | zero => simp at h; subst h; simp [ivCells]
    | succ k =>
      simp only [List.getElem?_cons_succ] at h
      have := ih k h
      simp only [ivCells, List.flatMap_cons, List.set_cons_succ] at this ⊢
      rw [← this, show (k + 1) * 2 + 1 = (k * 2 + 1) + 2 by omega]
      simp [List.set_cons_succ]
/-- a group's intervals; none where there is no such group -/
def ivsG (ms : List Sp.Mp) (g : Nat) : List (Int × List Nat) := if g < 4 then Sp.ivs ms g else []
def IvsPost (ms : List Sp.Mp) (g : Nat) (w : World) (e : Ending) (w' : World) : Prop :=
  ∃ v', e = .returned v' ∧ IvAt w' v' (ivsG ms g) ∧ Upd Nix w w'
set_option maxRecDepth 10000 in
theorem intervals_any (h a i : Nat) (v : Nat → Value) (ms : List Sp.Mp) (is : List Sp.Inc) (g : Nat) (hg : g < 256) (w : World) (H : HistAt w h a i v ms is) (hm : 0 < ms.length) (hm2 : ms.length ≤ 60) :
    Calls Try.prog 19 #[.pointer (some ⟨h, 0, none⟩), .int .u8 (g : Int)] w (IvsPost ms g w) := by
  by_cases h4 : g < 4
  · have hgi : (g : Int) < 4 := by omega
    have hpos := Sp.ivs_pos ms g hm
    have hle := Sp.ivs_len ms g
    have hact := ivs_act_len ms g
    have hiv := H.iv g h4
    obtain ⟨tl, e1, hrow, hacts⟩ := hiv
    obtain ⟨va, vc, hv⟩ := row_nil hrow
    have ch : w.cell? ⟨h, 3 + g, none⟩ = some (v g) := by rw [cell_blk H.blk]; exact hArr_iv _ _ _ _ g h4
    rw [hv] at ch hrow
    have htl : tl.length = (Sp.ivs ms g).length := by rw [← e1, List.length_map]
    have hone : ∀ u ∈ ivCells tl, u.oneCell' = true := ivCells_one hacts
    have HCL := hid (clone45_any _ _ 0 _ w hrow (by omega) hone)
    have HG : Hid (ivsG ms g = Sp.ivs ms g) := hid (by unfold ivsG; rw [if_pos h4])
    have HE1 := hid e1; have HACTS := hid hacts; have HACT := hid hact
    generalize hn : tl.length = n at *
    have HN := hid hn
    have hn0 : 0 < n := by omega
    have hn6 : n ≤ 60 := by omega
    clear hrow e1 hacts H hv hone hact hpos hle htl hn
    go_enter Try.func19, Try.ntmps19
    go_wp2_with fail
    refine HCL.out.mono ?_
    rintro e w1 ⟨nv, rfl, hr, hu⟩
    obtain ⟨c, cap, rfl⟩ : ∃ c cap, nv = .slice (some ⟨c, 0, none⟩) n cap := by
      rcases hr.2 with ⟨_, h0⟩ | ⟨c, cap, cur, hv, _⟩
      · omega
      · exact ⟨c, cap, hv⟩
    have hinv : Hid (∃ tl : List (Int × List Nat × Value), tl.length = n ∧ tl.map (fun t => (t.1, t.2.1)) = Sp.ivs ms g ∧ w1.ownsRow w.heap.size 62 2 (.slice (some ⟨c, 0, none⟩) n cap) n (ivCells tl) ∧ (∀ t ∈ tl, RowN w1 0 t.2.2 t.2.1) ∧ Upd Nix w w1) :=
      ⟨tl, HN.out, HE1.out, hr, fun t ht => row_keep (HACTS.out t ht) hu (fun _ _ f => f), hu⟩
    clear hr hu HCL HE1 HACTS HN ch
    go_wp2_with fail
    go_loopw [19] (fun j wr => ∃ k : Nat, k ≤ n ∧ j = .int .i64 k ∧ Hid (∃ tl : List (Int × List Nat × Value), tl.length = n ∧ tl.map (fun t => (t.1, t.2.1)) = Sp.ivs ms g ∧ wr.ownsRow w.heap.size 62 2 (.slice (some ⟨c, 0, none⟩) n cap) n (ivCells tl) ∧ (∀ t ∈ tl, RowN wr 0 t.2.2 t.2.1) ∧ Upd Nix w wr)) (fun j _ => n - (intOf j).toNat)
    case atStart => exact ⟨0, by omega, rfl, hinv.out⟩
    case round =>
      obtain ⟨k, hk, rfl, HR⟩ := hrel
      by_cases hlt : k < n
      · obtain ⟨tl2, l1, l2, l3, l4, l5⟩ := HR.out
        obtain ⟨⟨ts, tn, tv⟩, ht⟩ : ∃ t, tl2[k]? = some t := ⟨_, List.getElem?_eq_getElem (by omega)⟩
        have hg2 := ivCells_get tl2 k _ ht
        have k0 : wr.cell? ⟨c, k * 2, none⟩ = some (.int .u32 ts) := by rw [l3.cellAt _ (by omega)]; exact hg2.1
        have k1 : wr.cell? ⟨c, k * 2 + 1, none⟩ = some tv := by rw [l3.cellAt _ (by omega)]; exact hg2.2
        have kf : wr.frozen? ⟨c, k * 2 + 1, none⟩ = false := l3.frozenAt _
        have hrt : RowN wr 0 tv tn := l4 _ (List.mem_of_getElem? ht)
        have hto : tn.length ≤ 3 := HACT.out (ts, tn) (by rw [← l2]; exact List.mem_map.2 ⟨_, List.mem_of_getElem? ht, rfl⟩)
        obtain ⟨ta, tc, rfl⟩ := row_nil hrt
        have HCL := hid (clone46_any _ _ 0 _ _ (row_keep hrt ((Upd.refl Nix wr).alloc (.cells (ivArr ts (.slice ta tn.length tc)) 62)) (fun _ _ f => f)) (by omega) (nats_one _))
        have hki : (k : Int) < (n : Int) := by omega
        have HL := hid (And.intro l1 (And.intro l2 (And.intro l3 (And.intro l4 l5)))); have HT := hid ht
        clear l1 l2 l3 l4 l5 ht hg2 hrt HR hto
        go_wp2_with fail
        refine HCL.out.mono ?_
        rintro e w3 ⟨nv, rfl, hr3, hu3⟩
        obtain ⟨na, nc, rfl⟩ := row_nil hr3
        obtain ⟨l1, l2, l3, l4, l5⟩ := HL.out
        have hu4 : Upd Nix wr w3 := ((Upd.refl Nix wr).alloc _).trans hu3
        have l3' := row_keep l3 hu4 (fun _ _ f => f)
        have j1 : w3.cell? ⟨c, k * 2 + 1, none⟩ = some (.slice ta tn.length tc) := by
          rw [l3'.cellAt _ (by omega)]; exact (ivCells_get tl2 k _ HT.out).2
        have j2 : w3.frozen? ⟨c, k * 2 + 1, none⟩ = false := l3'.frozenAt _
        have hst := l3'.stored (k * 2 + 1) (.slice na tn.length nc)
        rw [ivCells_set tl2 k _ _ HT.out] at hst
        have hset : Upd (fun b => b = c) w3 (w3.setCell ⟨c, k * 2 + 1, none⟩ (.slice na tn.length nc)) := Upd.setCell (F := fun b => b = c) (Upd.refl _ w3) (p := ⟨c, k * 2 + 1, none⟩) (.inl rfl) _
        have hcb : ∀ v l, RowN w3 0 v l → RowN (w3.setCell ⟨c, k * 2 + 1, none⟩ (.slice na tn.length nc)) 0 v l := by
          intro v l hr
          refine row_keep hr hset (fun b hb e => ?_)
          obtain ⟨_, cur, hc⟩ := row_blk hr hb
          obtain ⟨_, cur2, hc2⟩ := row_blk l3' (b := c) rfl
          subst e
          rw [hc2] at hc; simp at hc
        have hfin : Hid (∃ tl : List (Int × List Nat × Value), tl.length = n ∧ tl.map (fun t => (t.1, t.2.1)) = Sp.ivs ms g ∧ (w3.setCell ⟨c, k * 2 + 1, none⟩ (.slice na tn.length nc)).ownsRow w.heap.size 62 2 (.slice (some ⟨c, 0, none⟩) n cap) n (ivCells tl) ∧ (∀ t ∈ tl, RowN (w3.setCell ⟨c, k * 2 + 1, none⟩ (.slice na tn.length nc)) 0 t.2.2 t.2.1) ∧ Upd Nix w (w3.setCell ⟨c, k * 2 + 1, none⟩ (.slice na tn.length nc))) := by
          refine ⟨tl2.set k (ts, tn, .slice na tn.length nc), by rw [List.length_set]; exact l1, ?_, hst.1, ?_, (l5.trans hu4).trans' hset (fun b hb e => ?_)⟩
          · rw [← l2]
            apply List.ext_getElem?
            intro j
            rw [List.getElem?_map, List.getElem?_map, List.getElem?_set]
            by_cases hj : k = j
            · subst hj
              rw [if_pos rfl, HT.out, if_pos (by omega)]; rfl
            · rw [if_neg hj]
          · intro t htm
            rcases List.mem_or_eq_of_mem_set htm with h | h
            · exact hcb _ _ (row_keep (l4 t h) hu4 (fun _ _ f => f))
            · subst h; exact hcb _ _ (row_mono hr3 (Nat.zero_le _))
          · have := (World.ownsRow.lt l3 c rfl).1
            omega
        clear hr3 hu3 l1 l2 l3 l4 l5 hu4 l3' hst hset hcb HL HT HCL k0 k1 kf
        go_wp2_with fail
        go_roundw
        case rel => exact ⟨k + 1, by omega, by go_num, hfin.out⟩
        case measure => simp [intOf]; omega
      · have : k = n := by omega
        subst this
        clear hinv
        go_wp2_with fail
        go_ret
        obtain ⟨tl2, l1, l2, l3, l4, l5⟩ := HR.out
        refine ⟨_, rfl, ?_, l5⟩
        rw [HG.out]
        exact ⟨tl2, l2, by rw [l1]; exact row_mono l3 (Nat.zero_le _), l4⟩
  · have hgi : (4 : Int) ≤ (g : Int) := by omega
    have hiv : ivsG ms g = [] := by unfold ivsG; rw [if_neg h4]
    have HIV := hid hiv
    clear H hiv
    go_enter Try.func19, Try.ntmps19
    go_wp2_with fail
    go_ret
    refine ⟨_, rfl, ?_, Upd.refl _ _⟩
    rw [HIV.out]
    exact ⟨[], rfl, World.ownsRow_nil _ _ _ _, by simp⟩
end Go.Proofs.Ytmkpljbkmkbnjaa

/-
  THE WALK of paddocklaw5.HistoryMaps.
-/
import Derived.Test.YtmkpljbkmkbnjaaRow
import Derived.Test.YtmkpljbkmkbnjaaDown
import Derived.Test.YtmkpljbkmkbnjaaFold
import Derived.Deep.AppendLies
import Derived.Deep.RegionHeld3
import Derived.Laws.StructEq
import Derived.ChangeKeysEq
namespace Go.Proofs.Ytmkpljbkmkbnjaa
open Go.RowKit
set_option linter.unusedVariables false
set_option linter.unusedSimpArgs false

/-- the increments that a history takes, one after another -/
def good (l : List Sp.Inc) : List Sp.Inc := l.foldl (fun is x => (Sp.add is (is.length + 2) x).2) []
theorem add_good (is : List Sp.Inc) (x : Sp.Inc) (h : is.length ≤ 58) : Sp.add is (is.length + 2) x = if Sp.isInc x = true then (0, is ++ [x]) else (40, is) := by
  unfold Sp.add
  rw [if_neg (by omega), if_neg (by omega)]
  by_cases hx : Sp.isInc x = true
  · rw [if_pos ⟨hx, by omega⟩, if_pos hx]
  · rw [if_neg (fun h => hx h.1), if_neg hx]
theorem good_step (l : List Sp.Inc) (k : Nat) (x : Sp.Inc) (h : l[k]? = some x) : good (l.take (k + 1)) = (Sp.add (good (l.take k)) ((good (l.take k)).length + 2) x).2 := by
  unfold good
  rw [List.take_add_one, h, Option.toList_some, List.foldl_append]; rfl
theorem good_len (l : List Sp.Inc) : (good l).length ≤ l.length := by
  refine Sp.snocRec (P := fun l => (good l).length ≤ l.length) (by simp [good]) ?_ l
  intro l x ih
  have e : good (l ++ [x]) = (Sp.add (good l) ((good l).length + 2) x).2 := by unfold good; rw [List.foldl_append]; rfl
  rw [e]
  unfold Sp.add
  rw [if_neg (by omega), if_neg (by omega)]
  split
  · simp; omega
  · simp; omega
theorem info50 : (Try.prog.info? 50).map (fun i => (i.zero, i.size, i.bytes)) = some (some (.agg #[.int .u8 0, .int .u8 0, .int .i64 0]), 3, 16) := by kernel_rfl
theorem Hs.ty2 {S : Nat → Prop} {w : World} {h : Nat} {is : List Sp.Inc} (H : Hs w h is S) {b : Nat} (hb : S b) {cur : Array Value} {t : TypeId} {fr : Nat × Nat} (e : w.heap[b]? = some (.cells cur t fr)) : t = 62 ∨ t = 109 := by
  obtain ⟨a, i, v, hc, hch, rfl⟩ := H
  rcases hb with rfl | rfl | rfl | ⟨g, hg, hb⟩
  · rw [hc.blk] at e; simp at e; exact .inr e.2.1.symm
  · rw [hc.mblk] at e; simp at e
  · rw [hc.iblk] at e; simp at e
  · obtain ⟨cur', hc'⟩ := (hc.iv g hg).blk hb
    rw [hc'] at e; simp at e; exact .inl e.2.1.symm
def Rows50 (w w' : World) : Prop := ∀ base v l, IncRow w base v l → IncRow w' base v l
theorem Rows50.nix {w w' : World} (h : Upd Nix w w') : Rows50 w w' := fun base v l hr => row_keep hr h (fun _ _ f => f)
def AddAt50 (w0 : World) (h : Nat) (is : List Sp.Inc) (e : Nat) (x : Sp.Inc) (w : World) (en : Ending) (w' : World) : Prop := en = .returned (.int .i64 (Sp.add is e x).1) ∧ At w0 w' h (Sp.add is e x).2 ∧ Rows50 w w'
theorem add_at50 {w0 w : World} {h : Nat} {is : List Sp.Inc} (H : At w0 w h is) (e : Nat) (x : Sp.Inc) (he : e < 4294967296) (hx : IncOk x) :
    Calls Try.prog 17 #[.pointer (some ⟨h, 0, none⟩), .int .u32 (e : Int), incV x] w (AddAt50 w0 h is e x w) := by
  obtain ⟨S, h1, h2, h3⟩ := H
  refine (add_any h is S e x w h1 he hx).mono ?_
  rintro en w' hp
  have hp2 := hp
  obtain ⟨rfl, S', k1, k2, k3⟩ := addS_next hp h2 h3
  obtain ⟨_, S2, _, hu, _⟩ := hp2
  refine ⟨rfl, ⟨S', k1, k2, k3⟩, fun base v l hr => row_keep hr hu (fun b hb f => ?_)⟩
  obtain ⟨_, cur, hc⟩ := row_blk hr hb
  rcases h1.ty2 f hc with h | h <;> simp at h
theorem At.grown {w0 w w' : World} {h : Nat} {is l : List Sp.Inc} {v : Value} (H : At w0 w h is) (hr : IncRow w w0.heap.size v l) (hu : Upd (fun b => some b = v.ownBlock) w w') : At w0 w' h is := by
  obtain ⟨S, h1, h2, h3⟩ := H
  refine ⟨S, h1.keep hu (fun b hb f => ?_), h2.trans' hu (fun b hb f => ?_), h3⟩
  · obtain ⟨_, cur, hc⟩ := row_blk hr f.symm
    refine ⟨fun s => ?_, fun cur2 fr e => ?_⟩
    · rcases h1.ty2 s hc with h | h <;> simp at h
    · rw [hc] at e; simp at e
  · have := (World.ownsRow.lt hr b f.symm).1
    omega
theorem three_new (w : World) (x y z : Value) (t : TypeId) : ∀ (j : Nat) u, [x, y, z][j]? = some u → (w.alloc (.cells #[x, y, z] t)).cell? ((⟨w.heap.size, 0, none⟩ : Addr).add j) = some u := by
  intro j u hj
  match j, hj with
  | 0, hj => simp at hj; subst hj; simp [Addr.add]
  | 1, hj => simp at hj; subst hj; simp [Addr.add]
  | 2, hj => simp at hj; subst hj; simp [Addr.add]
theorem three_one {k1 k2 k3 : IntKind} (x y z : Int) : ∀ u ∈ [Value.int k1 x, Value.int k2 y, Value.int k3 z], u.oneCell' = true := by
  intro u hu; simp at hu; rcases hu with rfl | rfl | rfl <;> rfl
theorem inc_prefix {w : World} {base : Nat} {ga : Option Addr} {gc K : Nat} {G : List Sp.Inc} (h : IncRow w base (.slice ga G.length gc) G) (hK : K ≤ G.length) : IncRow w base (.slice ga K gc) (G.take K) := by
  have hl : (G.take K).length = K := by rw [List.length_take]; omega
  have hcs : incCells (G.take K) = (incCells G).take (K * 3) := by
    clear h hl
    induction G generalizing K with
    | nil => simp [incCells]
    | cons x r ih =>
      cases K with
      | zero => simp [incCells]
      | succ K =>
        have := ih (K := K) (by simpa using hK)
        simp only [incCells, List.take_succ_cons, List.flatMap_cons] at this ⊢
        rw [this, show (K + 1) * 3 = K * 3 + 3 by omega]
        rfl
  unfold IncRow
  rw [hl]
  refine ⟨by rw [hcs, List.length_take, incCells_len]; omega, ?_⟩
  rcases h.2 with ⟨hv, h0⟩ | ⟨g, cap, cur, hv, hb, hc, hn, hm, hsz, htk⟩
  · have : K = 0 := by omega
    subst this
    simp only [Value.slice.injEq] at hv
    exact .inl ⟨by rw [hv.1, hv.2.2], rfl⟩
  · simp only [Value.slice.injEq] at hv
    refine .inr ⟨g, cap, cur, by rw [hv.1, hv.2.2], hb, hc, by omega, hm, hsz, ?_⟩
    rw [hcs, ← htk, List.take_take]
    congr 1
    omega
theorem good_sub (l : List Sp.Inc) : ∀ x ∈ good l, x ∈ l := by
  refine Sp.snocRec (P := fun l => ∀ x ∈ good l, x ∈ l) (by simp [good]) ?_ l
  intro l y ih x hx
  have e : good (l ++ [y]) = (Sp.add (good l) ((good l).length + 2) y).2 := by unfold good; rw [List.foldl_append]; rfl
  rw [e] at hx
  unfold Sp.add at hx
  rw [if_neg (by omega), if_neg (by omega)] at hx
  split at hx
  · rw [List.mem_append] at hx
    rcases hx with hx | hx
    · exact List.mem_append.2 (.inl (ih x hx))
    · exact List.mem_append.2 (.inr hx)
  · exact List.mem_append.2 (.inl (ih x hx))
theorem eq54 (d : Nat) (o : Sp.Osd) (w : World) : (Op.equalIn (d + 2) 54 (osdV o) (osdV o)).run Try.prog w = .ok true w := by
  rw [run_equalIn_agg _ _ _ _ _ (by kernel_rfl) (by kernel_rfl)]
  simp [Program.fieldsOf, Try.underlying54, Op.eqFields, Sem.run_bind, part, go_sem, Try.underlying4, Try.underlying3, Try.underlying5]
set_option maxRecDepth 100000 in
theorem eq57 (m : Sp.Mp) (w : World) : (binOp .eql 57 (mpV m) (mpV m)).run Try.prog w = .ok (.bool true) w := by
  obtain ⟨i, hi⟩ : ∃ i, Try.prog.info? 54 = some i := by
    have h : (Try.prog.info? 54).isSome = true := by kernel_rfl
    exact Option.isSome_iff_exists.1 h
  have c54 : Try.prog.cellsOf 54 = 3 := by kernel_rfl
  rw [run_eql_struct, run_equalIn_agg _ _ _ _ _ (by kernel_rfl) (by kernel_rfl)]
  have ha : ∀ (xs ys : Array Value) (w : World), (Op.equalIn 9999 55 (.agg xs) (.agg ys)).run Try.prog w = (Op.eqItems 9998 54 (Try.prog.cellsOf 54) xs ys (List.range 5)).run Try.prog w := fun xs ys w => run_equalIn_array (P := Try.prog) w 9998 xs ys Try.underlying55 hi
  have h54 : ∀ (u : Bool) (a b : Int) (w : World), (Op.equalIn 9998 54 (.agg #[.bool u, .int .i64 a, .int .u8 b]) (.agg #[.bool u, .int .i64 a, .int .u8 b])).run Try.prog w = .ok true w := fun u a b w => eq54 9996 ⟨u, a, b⟩ w
  simp [Program.fieldsOf, Try.underlying57, Op.eqFields, Sem.run_bind, part, go_sem, Try.underlying28, Try.underlying55, Try.underlying54, ha, Op.eqItems, c54, h54, List.range, List.range.loop]
theorem inc_cells {w : World} {a : Addr} {k : Nat} {x : Sp.Inc} (h : IncAt w a k x) : w.cell? (a.add (k * 3)) = some (.int .u8 x.kind) ∧ w.cell? ⟨(a.add (k * 3)).block, (a.add (k * 3)).off + 1, none⟩ = some (.int .u8 x.osd) ∧ w.cell? ⟨(a.add (k * 3)).block, (a.add (k * 3)).off + 2, none⟩ = some (.int .i64 x.n) := by
  obtain ⟨h0, h1, h2⟩ := h
  have e1 : a.add (k * 3 + 1) = ⟨(a.add (k * 3)).block, (a.add (k * 3)).off + 1, none⟩ := by rw [← Go.Deep.add_add]; rfl
  have e2 : a.add (k * 3 + 2) = ⟨(a.add (k * 3)).block, (a.add (k * 3)).off + 2, none⟩ := by rw [← Go.Deep.add_add]; rfl
  rw [e1] at h1; rw [e2] at h2
  exact ⟨h0, h1, h2⟩
theorem InRow.form {w : World} {v : Value} {l : List Sp.Inc} (h : InRow w v l) : ∃ va cap, v = .slice va l.length cap ∧ ∀ k x, l[k]? = some x → ∃ a, va = some a ∧ IncAt w a k x := by
  rcases h with ⟨rfl, rfl⟩ | ⟨a, cap, rfl, _, _, h4⟩
  · exact ⟨none, 0, rfl, fun k x hx => by simp at hx⟩
  · exact ⟨some a, cap, rfl, fun k x hx => ⟨a, rfl, h4 k x hx⟩⟩
theorem IncAt.keep {w w' : World} {a : Addr} {k : Nat} {x : Sp.Inc} (h : IncAt w a k x) (hu : Upd Nix w w') : IncAt w' a k x := by
  obtain ⟨c0, c1, c2⟩ := h
  exact ⟨(hu.cell (World.block_lt_of_cell? _ _ c0) (fun f => f)).trans c0, (hu.cell (World.block_lt_of_cell? _ _ c1) (fun f => f)).trans c1, (hu.cell (World.block_lt_of_cell? _ _ c2) (fun f => f)).trans c2⟩
set_option maxRecDepth 10000 in
theorem mapsW_any (v : Value) (l : List Sp.Inc) (ep : Nat) (hep : ep < 256) (w : World) (hr : InRow w v l) (hok : ∀ x ∈ l, IncOk x) : Calls Try.prog 7 #[v, .int .u8 (ep : Int)] w (KnownPost w) := by
  obtain ⟨va, vc, rfl, hcells⟩ := hr.form
  obtain ⟨i0, hi, hz0, hz1, hz2⟩ := info_parts info50
  generalize hn : l.length = n at *
  have HCELLS := hid hcells; have HOK := hid hok; have HLN := hid hn
  clear hcells hok hr hn
  by_cases h30 : n ≤ 30
  · go_enter Try.func7, Try.ntmps7
    go_wp2_with fail
    refine (known5_any _).mono ?_
    rintro e w1 ⟨rfl, hu1⟩
    have HU1 := hid hu1
    have HN := hid (new_at (w0 := w) hu1)
    have hni : (n : Int) ≤ 30 := by omega
    clear hu1
    go_wp2_with fail
    refine HN.out.mono ?_
    rintro e w2 ⟨h, rfl, hat⟩
    have HAT := hid hat
    clear hat HN
    go_wp2_with fail
    go_loopw [6, 7] (fun gv j wr => ∃ k : Nat, k ≤ n ∧ j = .int .i64 k ∧ Hid (At w wr h (good (l.take k)) ∧ IncRow wr w.heap.size gv (good (l.take k)))) (fun _ j _ => n - (intOf j).toNat)
    case atStart => exact ⟨0, by omega, rfl, HAT.out, World.ownsRow_nil _ _ _ _⟩
    case round =>
      obtain ⟨k, hk, rfl, HR⟩ := hrel
      clear HAT
      by_cases hlt : k < n
      · obtain ⟨x, hx⟩ : ∃ x, l[k]? = some x := ⟨_, List.getElem?_eq_getElem (by have := HLN.out; omega)⟩
        obtain ⟨a, rfl, hin⟩ := HCELLS.out k x hx
        have hki : (k : Int) < (n : Int) := by omega
        have HX := hid hx; have HIN := hid hin
        clear hx hin
        go_upto_region 10 with (fail)
        obtain ⟨N, hN⟩ : ∃ N, N = (good (l.take k)).length := ⟨_, rfl⟩
        have hNe := hN
        have hNk : N ≤ 29 := by have := good_len (l.take k); rw [List.length_take] at this; have := HLN.out; omega
        have hw : IntKind.u32.wrap (((N + 1 : Nat) : Int) + 1) = ((N + 2 : Nat) : Int) := by
          rw [show ((N + 1 : Nat) : Int) + 1 = (N : Int) + 2 by omega, show ((N + 2 : Nat) : Int) = (N : Int) + 2 by omega]
          clear hNe
          simp only [IntKind.wrap, IntKind.signed, IntKind.bits]
          simp
          omega
        obtain ⟨N1, hN1⟩ : ∃ N1 : Int, N1 = ((N + 1 : Nat) : Int) := ⟨_, rfl⟩
        obtain ⟨N2, hN2⟩ : ∃ N2 : Int, N2 = ((N + 2 : Nat) : Int) := ⟨_, rfl⟩
        rw [← hN1, ← hN2] at hw
        have hla := last_at (HR.out.1.keep0 ((Upd.refl Nix wr).drew))
        rw [← hN, ← hN1] at hla
        have hxo := HOK.out x (List.mem_of_getElem? HX.out)
        have haa := add_at50 (HR.out.1.keep0 ((Upd.refl Nix wr).drew)) (N + 2) x (by omega) hxo
        rw [← hN2] at haa
        have hag := add_good (good (l.take k)) x (by omega)
        rw [← hN] at hag
        obtain ⟨c0, c1, c2⟩ := inc_cells (HIN.out.keep HR.out.1.upd)
        have HLA := hid hla; have HAA := hid haa; have HAG := hid hag
        have HNE := hid hN
        clear hla haa hag hxo hN hN1 hN2 hNk
        go_cut [34] (fun r wx => ∃ b : Bool, r = .bool b ∧ Hid (b = Sp.isInc x ∧ At w wx h (good (l.take (k + 1))) ∧ Rows50 wr wx))
        case first =>
          go_region_held3 (fun w' => w'.cell? (a.add (k * 3)) = some (.int .u8 x.kind) ∧ w'.cell? ⟨(a.add (k * 3)).block, (a.add (k * 3)).off + 1, none⟩ = some (.int .u8 x.osd) ∧ w'.cell? ⟨(a.add (k * 3)).block, (a.add (k * 3)).off + 2, none⟩ = some (.int .i64 x.n))
            ((first
              | exact ⟨c0, c1, c2⟩
              | exact inc_cells (HIN.out.keep hat.out.1.upd)))
            (first
              | (go_at_call 18; refine HLA.out.mono ?_; rintro e w3 ⟨rfl, rfl⟩)
              | (go_at_call 17; refine HAA.out.mono ?_; rintro e w4 ⟨rfl, hat0⟩; have hat := hid hat0; clear hat0))
          all_goals go_wp2
          all_goals go_meet
          all_goals refine ⟨Sp.isInc x, ?_, rfl, ?_, hat.out.2⟩
          all_goals first
            | (rw [HAG.out]; cases Sp.isInc x <;> rfl)
            | (rw [← HNE.out, HAG.out]; cases Sp.isInc x <;> rfl)
            | (rw [good_step l k x HX.out, ← HNE.out]; exact hat.out.1)
        case rest =>
          obtain ⟨b, rfl, HC⟩ := hcut
          have hrow := HC.out.2.2 _ _ _ HR.out.2
          have HROW := hid hrow
          clear hrow c0 c1 c2 hw HLA HAA
          cases b
          · go_wp2_with fail
            go_roundw
            case rel =>
              refine ⟨k + 1, by omega, by go_num, HC.out.2.1, ?_⟩
              rw [good_step l k x HX.out, ← HNE.out, HAG.out, ← HC.out.1]
              exact HROW.out
            case measure => simp [intOf]; omega
          · have hlr : (good (l.take k)).length ≤ 30 := by have := good_len (l.take k); rw [List.length_take] at this; have := HLN.out; omega
            obtain ⟨ga, gc, rfl⟩ := row_nil HROW.out
            obtain ⟨c0, c1, c2⟩ := inc_cells (HIN.out.keep HC.out.2.1.upd)
            go_wp2_with (at_builtin; refine wpList_append_lies _ rfl _ _ 43 rfl w.heap.size 50 i0 (.agg #[.int .u8 0, .int .u8 0, .int .i64 0]) 3 16 Try.underlying43 hi hz0 hz1 hz2 rfl (by decide) (.slice ga (good (l.take k)).length gc) (good (l.take k)).length (incCells (good (l.take k))) rfl (HROW.out.alloc _) ⟨wc.heap.size, 0, none⟩ 1 1 [.int .u8 x.kind, .int .u8 x.osd, .int .i64 x.n] rfl rfl (three_new _ _ _ _ _) (three_one _ _ _) (by decide) (by unfold maxLen; omega) (by omega) (by have := HC.out.2.1.upd.size; simp; omega) _ rfl ?_; intro g4 cap4 w4 hown4 hgr hat4 hlt4)
            have hU : Upd (fun b => some b = (Value.slice ga (good (l.take k)).length gc).ownBlock) wc w4 := ((Upd.refl _ wc).alloc _).trans' (Upd.of_grown hgr) (fun _ _ f => f)
            have hgs : good (l.take (k + 1)) = good (l.take k) ++ [x] := by rw [good_step l k x HX.out, ← HNE.out, HAG.out, ← HC.out.1]; rfl
            refine ⟨⟨k + 1, by omega, by go_num, HC.out.2.1.grown HROW.out hU, ?_⟩, by simp [intOf]; omega⟩
            rw [hgs]; unfold IncRow
            rw [incCells_snoc, List.length_append]
            exact hown4
      · have : k = n := by omega
        subst this
        have hl : l.take k = l := by rw [← HLN.out, List.take_length]
        rw [hl] at HR
        have HR2 := hid HR.out
        clear HR hl
        have hgk : (good l).length ≤ 30 := by have := good_len l; have := HLN.out; omega
        obtain ⟨ga, gc, rfl⟩ := row_nil HR2.out.2
        have hcap : (good l).length ≤ gc := by
          rcases HR2.out.2.2 with ⟨_, h0⟩ | ⟨_, cap, _, hv, _, _, hnc, _⟩
          · omega
          · simp at hv; omega
        generalize hG : good l = G at *
        have HG := hid hG
        clear hG
        generalize hN : G.length = N at *
        have HN2 := hid hN
        clear hN
        have hrem : (ep : Int).tmod ((N : Int) + 1) = ((ep % (N + 1) : Nat) : Int) := by
          rw [Int.tmod_eq_emod_of_nonneg (by omega), show (N : Int) + 1 = ((N + 1 : Nat) : Int) by omega]; rfl
        have hK : ep % (N + 1) ≤ N := by have := Nat.mod_lt ep (show 0 < N + 1 by omega); omega
        generalize ep % (N + 1) = K at *
        obtain ⟨S, hs1, hs2, hs3⟩ := HR2.out.1
        have hmap := map_s hs1 (K + 1)
        rw [show ((K + 1 : Nat) : Int) = (K : Int) + 1 by omega] at hmap
        have HM := hid hmap
        clear hs1 hs2 hs3 hmap
        go_wp2_with fail
        refine HM.out.mono ?_
        rintro e w3 ⟨rfl, hu3⟩
        have hme : mapAt G (K + 1) = Sp.lastMap (G.take K) := by
          unfold mapAt; rw [if_pos (by have := HN2.out; omega)]; rfl
        rw [hme, decide_eq_true (show 1 ≤ K + 1 ∧ K + 1 ≤ G.length + 1 by have := HN2.out; omega)]
        have HAT3 := hid (HR2.out.1.keep0 hu3)
        have HROW3 := hid (row_keep HR2.out.2 hu3 (fun _ _ f => f))
        clear hme hu3 HM HR2
        generalize hm2 : Sp.lastMap (G.take K) = m2 at *
        have HM2 := hid hm2
        clear hm2
        go_upto_region 14 with ((with_reducible refine at_store 57 (.tmp 9) (.tmp 54) ?_); refine wpList_store_row rfl 57 (.tmp 9) (.tmp 54) rfl w3.heap.size rfl (mpArr m2) rfl 57 zeroArr (alloc_new w3 _) rfl size57 rfl ?_)
        change Code.wp _ _ _ _ ((w3.alloc (.cells zeroArr 57)).setRow w3.heap.size (mpArr m2))
        have hu4 : Upd Nix w3 ((w3.alloc (.cells zeroArr 57)).setRow w3.heap.size (mpArr m2)) := ((Upd.refl _ _).alloc _).setRow (.inr (Nat.le_refl _)) _
        have HB4 := hid (setRow_new (mpArr m2) (alloc_new w3 (.cells zeroArr 57)))
        have HAT4 := hid (HAT3.out.keep0 hu4)
        have HROW4 := hid (row_keep HROW3.out hu4 (fun _ _ f => f))
        clear hu4 HAT3 HROW3
        generalize (w3.alloc (.cells zeroArr 57)).setRow w3.heap.size (mpArr m2) = w4 at *
        generalize w3.heap.size = b9 at *
        have hKi : (K : Int) ≤ (gc : Int) := by omega
        go_wp2_with fail
        have hfo := fold_any (G.take K) (.slice ga K gc) w.heap.size w4 (inc_prefix (by have h := HROW4.out; unfold IncRow; rw [HN2.out] at h ⊢; exact h) (by rw [HN2.out]; exact hK)) (by obtain ⟨S, h1, _, _⟩ := HAT4.out; exact h1.chain.take K) (fun x hx => HOK.out x (good_sub l x (by rw [HG.out]; exact List.mem_of_mem_take hx)))
        unfold FoldPost at hfo
        rw [HM2.out] at hfo
        refine hfo.mono ?_
        clear hfo
        rintro e w5 ⟨rfl, hu5⟩
        have HB5 := hid (hu5.keep HB4.out (fun f => f))
        have HAT5 := hid (HAT4.out.keep0 hu5)
        clear hu5 HB4 HAT4 HROW4
        go_upto_region 15 with ((with_reducible refine at_store 57 (.tmp 11) (.tmp 61) ?_); refine wpList_store_row rfl 57 (.tmp 11) (.tmp 61) rfl w5.heap.size rfl (mpArr m2) rfl 57 zeroArr (alloc_new w5 _) rfl size57 rfl ?_)
        change Code.wp _ _ _ _ ((w5.alloc (.cells zeroArr 57)).setRow w5.heap.size (mpArr m2))
        have hu6 : Upd Nix w5 ((w5.alloc (.cells zeroArr 57)).setRow w5.heap.size (mpArr m2)) := ((Upd.refl _ _).alloc _).setRow (.inr (Nat.le_refl _)) _
        have HB6 := hid (setRow_new (mpArr m2) (alloc_new w5 (.cells zeroArr 57)))
        have HB7 := hid (hu6.keep HB5.out (fun f => f))
        have HAT6 := hid (HAT5.out.keep0 hu6)
        clear hu6 HAT5 HB5
        generalize (w5.alloc (.cells zeroArr 57)).setRow w5.heap.size (mpArr m2) = w6 at *
        generalize w5.heap.size = b11 at *
        have heq := eq57 m2
        have hla := last_at HAT6.out
        rw [HN2.out, show ((N + 1 : Nat) : Int) = (N : Int) + 1 by omega] at hla
        have HLA := hid hla
        clear hla
        obtain ⟨j0, j1, j2, j3, j4, j5, j6, j7, j8, j9, j10, j11, j12, j13, j14, j15⟩ := mp_cells HB7.out
        obtain ⟨q0, q1, q2, q3, q4, q5, q6, q7, q8, q9, q10, q11, q12, q13, q14, q15⟩ := mp_cells HB6.out
        go_wp2_with fail
        refine HLA.out.mono ?_
        rintro e w7 ⟨rfl, rfl⟩
        clear j0 j1 j2 j3 j4 j5 j6 j7 j8 j9 j10 j11 j12 j13 j14 j15 q0 q1 q2 q3 q4 q5 q6 q7 q8 q9 q10 q11 q12 q13 q14 q15 heq
        go_wp2_with fail
        go_ret
        exact ⟨rfl, HAT6.out.upd⟩
  · have hni : (30 : Int) < (n : Int) := by omega
    go_enter Try.func7, Try.ntmps7
    go_wp2_with fail
    refine (known5_any _).mono ?_
    rintro e w1 ⟨rfl, hu1⟩
    have HU1 := hid hu1
    clear hu1
    go_wp2_with fail
    go_ret
    exact ⟨rfl, HU1.out⟩
end Go.Proofs.Ytmkpljbkmkbnjaa

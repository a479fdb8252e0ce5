/-
  THE WALK of paddocklaw5.HistoryPlays.
-/
import Derived.Test.YtmkpljbkmkbnjaaAlike
import Derived.Test.YtmkpljbkmkbnjaaCopy
namespace Go.Proofs.Ytmkpljbkmkbnjaa
open Go.RowKit
set_option linter.unusedVariables false
set_option linter.unusedSimpArgs false

/-- a step that came in -/
structure St where
  next : Bool
  ep : Nat
  x : Sp.Inc
def stEp (is : List Sp.Inc) (s : St) : Nat := if s.next = true then is.length + 2 else s.ep
def stepS (is : List Sp.Inc) (s : St) : List Sp.Inc := (Sp.add is (stEp is s) s.x).2
def plays (l : List St) : List Sp.Inc := l.foldl stepS []
theorem plays_step (l : List St) (k : Nat) (s : St) (h : l[k]? = some s) : plays (l.take (k + 1)) = stepS (plays (l.take k)) s := by
  unfold plays
  rw [List.take_add_one, h, Option.toList_some, List.foldl_append]; rfl
/-- the five cells of a step -/
def StAt (w : World) (a : Addr) (k : Nat) (s : St) : Prop :=
  w.cell? (a.add (k * 5)) = some (.bool s.next) ∧ w.cell? ⟨(a.add (k * 5)).block, (a.add (k * 5)).off + 1, none⟩ = some (.int .u32 (s.ep : Int)) ∧
  w.cell? ⟨(a.add (k * 5)).block, (a.add (k * 5)).off + 2, none⟩ = some (.int .u8 s.x.kind) ∧ w.cell? ⟨(a.add (k * 5)).block, (a.add (k * 5)).off + 2 + 1, none⟩ = some (.int .u8 s.x.osd) ∧ w.cell? ⟨(a.add (k * 5)).block, (a.add (k * 5)).off + 2 + 2, none⟩ = some (.int .i64 s.x.n)
theorem StAt.keep {w w' : World} {a : Addr} {k : Nat} {s : St} (h : StAt w a k s) (hu : Upd Nix w w') : StAt w' a k s := by
  obtain ⟨c0, c1, c2, c3, c4⟩ := h
  exact ⟨(hu.cell (World.block_lt_of_cell? _ _ c0) (fun f => f)).trans c0, (hu.cell (World.block_lt_of_cell? _ _ c1) (fun f => f)).trans c1, (hu.cell (World.block_lt_of_cell? _ _ c2) (fun f => f)).trans c2,
    (hu.cell (World.block_lt_of_cell? _ _ c3) (fun f => f)).trans c3, (hu.cell (World.block_lt_of_cell? _ _ c4) (fun f => f)).trans c4⟩
def StRow (w : World) (va : Option Addr) (l : List St) : Prop := ∀ (k : Nat) (s : St), l[k]? = some s → s.ep < 4294967296 ∧ IncOk s.x ∧ ∃ a, va = some a ∧ StAt w a k s

/-- a history and the reference's, in the midst of a law -/
def Pr (w0 w : World) (h : Nat) (A : List Sp.Inc) (rb : Nat) (B : List Sp.Inc) : Prop :=
  ∃ S T, Hs w h A S ∧ RHs w rb B T ∧ Upd Nix w0 w ∧ (∀ k, S k → w0.heap.size ≤ k) ∧ ∀ k, T k → w0.heap.size ≤ k
theorem Pr.keep0 {w0 w w' : World} {h rb : Nat} {A B : List Sp.Inc} (H : Pr w0 w h A rb B) (hu : Upd Nix w w') : Pr w0 w' h A rb B := by
  obtain ⟨S, T, h1, h2, h3, h4, h5⟩ := H
  exact ⟨S, T, h1.keep0 hu, h2.keep0 hu, h3.trans hu, h4, h5⟩
theorem Pr.upd {w0 w : World} {h rb : Nat} {A B : List Sp.Inc} (H : Pr w0 w h A rb B) : Upd Nix w0 w := by
  obtain ⟨S, T, h1, h2, h3, h4, h5⟩ := H; exact h3
theorem Pr.at {w0 w : World} {h rb : Nat} {A B : List Sp.Inc} (H : Pr w0 w h A rb B) : At w0 w h A := by
  obtain ⟨S, T, h1, h2, h3, h4, h5⟩ := H; exact ⟨S, h1, h3, h4⟩
theorem Pr.ref {w0 w : World} {h rb : Nat} {A B : List Sp.Inc} (H : Pr w0 w h A rb B) : ∃ T, RHs w rb B T := by
  obtain ⟨S, T, h1, h2, h3, h4, h5⟩ := H; exact ⟨T, h2⟩
theorem hs_rhs {S T : Nat → Prop} {w : World} {h rb : Nat} {A B : List Sp.Inc} (H : Hs w h A S) (R : RHs w rb B T) (k : Nat) (s : S k) (t : T k) : False := by
  rcases R.ty t with ⟨cur, hc⟩ | ⟨cur, hc⟩
  · rcases H.ty2 s hc with h | h <;> simp at h
  · rcases H.ty2 s hc with h | h <;> simp at h
def PrH (w0 : World) (h : Nat) (A : List Sp.Inc) (rb : Nat) (B : List Sp.Inc) (e : Nat) (x : Sp.Inc) (en : Ending) (w' : World) : Prop :=
  en = .returned (.int .i64 (Sp.add A e x).1) ∧ Pr w0 w' h (Sp.add A e x).2 rb B
theorem Pr.addh {w0 w : World} {h rb : Nat} {A B : List Sp.Inc} (H : Pr w0 w h A rb B) (e : Nat) (x : Sp.Inc) (he : e < 4294967296) (hx : IncOk x) :
    Calls Try.prog 17 #[.pointer (some ⟨h, 0, none⟩), .int .u32 (e : Int), incV x] w (PrH w0 h A rb B e x) := by
  obtain ⟨S, T, h1, h2, h3, h4, h5⟩ := H
  refine (add_any h A S e x w h1 he hx).mono ?_
  rintro en w' hp
  have hp2 := hp
  obtain ⟨rfl, S', k1, k2, k3⟩ := addS_next hp h3 h4
  obtain ⟨_, S2, hq, hu, hf⟩ := hp2
  refine ⟨rfl, S2, T, hq, h2.keep hu (fun k s t => hs_rhs h1 h2 k s t), k2, fun k s => ?_, h5⟩
  rcases hf k s with h | h
  · exact h4 k h
  · have := h3.size; omega
def PrR (w0 : World) (h : Nat) (A : List Sp.Inc) (rb : Nat) (B : List Sp.Inc) (e : Nat) (x : Sp.Inc) (en : Ending) (w' : World) : Prop :=
  en = .returned (.int .i64 (Sp.add B e x).1) ∧ Pr w0 w' h A rb (Sp.add B e x).2
theorem Pr.addr {w0 w : World} {h rb : Nat} {A B : List Sp.Inc} (H : Pr w0 w h A rb B) (e : Nat) (x : Sp.Inc) (he : e < 4294967296) (hx : IncOk x) :
    Calls Try.prog 31 #[.pointer (some ⟨rb, 0, none⟩), .int .u32 (e : Int), incV x] w (PrR w0 h A rb B e x) := by
  obtain ⟨S, T, h1, h2, h3, h4, h5⟩ := H
  refine (radd_any h2 e x he hx).mono ?_
  rintro en w' ⟨rfl, T', k1, k2, k3⟩
  refine ⟨rfl, S, T', h1.keep k2 (fun k hk t => ⟨fun s => hs_rhs h1 h2 k s t, fun cur fr hc => ?_⟩), k1, h3.trans' k2 (fun k hk t => ?_), h4, fun k t => ?_⟩
  · rcases h2.ty t with ⟨cur2, hc2⟩ | ⟨cur2, hc2⟩ <;> (rw [hc2] at hc; simp at hc)
  · have := h5 k t; omega
  · rcases k3 k t with h | h
    · exact h5 k h
    · have := h3.size; omega
set_option maxRecDepth 100000 in
theorem neq50 (x : Sp.Inc) (w : World) : (binOp .neq 50 (incV x) (incV x)).run Try.prog w = .ok (.bool false) w := by
  rw [run_neq_struct, run_equalIn_agg _ _ _ _ _ (by kernel_rfl) (by kernel_rfl)]
  simp [Program.fieldsOf, Try.underlying50, Op.eqFields, Sem.run_bind, part, go_sem, Try.underlying5, Try.underlying3]
/-- and a copy of the history -/
def Pr3 (w0 w : World) (h : Nat) (A : List Sp.Inc) (rb : Nat) (B : List Sp.Inc) (c : Nat) (D : List Sp.Inc) : Prop :=
  ∃ S T Sc, Hs w h A S ∧ RHs w rb B T ∧ Hs w c D Sc ∧ Upd Nix w0 w ∧ (∀ k, S k → w0.heap.size ≤ k) ∧ (∀ k, T k → w0.heap.size ≤ k) ∧ (∀ k, S k → ¬ Sc k) ∧ ∀ k, Sc k → w0.heap.size ≤ k
theorem Pr3.atc {w0 w : World} {h rb c : Nat} {A B D : List Sp.Inc} (H : Pr3 w0 w h A rb B c D) : At w0 w c D := by
  obtain ⟨S, T, Sc, h1, h2, h3, h4, h5, h6, h7, h8⟩ := H
  exact ⟨Sc, h3, h4, h8⟩
def CopyP (w0 : World) (h : Nat) (A : List Sp.Inc) (rb : Nat) (B : List Sp.Inc) (e : Ending) (w' : World) : Prop := ∃ c, e = .returned (.pointer (some ⟨c, 0, none⟩)) ∧ Pr3 w0 w' h A rb B c A
theorem Pr.copy {w0 w : World} {h rb : Nat} {A B : List Sp.Inc} (H : Pr w0 w h A rb B) : Calls Try.prog 29 #[.pointer (some ⟨h, 0, none⟩)] w (CopyP w0 h A rb B) := by
  obtain ⟨S, T, h1, h2, h3, h4, h5⟩ := H
  have hm := h1.maps
  have h1' := h1
  obtain ⟨a, i, v, hc, hch, hS⟩ := h1
  refine (copy_any h a i v _ A w hc (by omega)).mono ?_
  rintro e w' ⟨c, a', i', v', rfl, hc', hu, hf⟩
  refine ⟨c, rfl, S, T, _, h1'.keep0 hu, h2.keep0 hu, ⟨a', i', v', hc', hch, rfl⟩, h3.trans hu, h4, h5, fun k s t => ?_, fun k t => Nat.le_trans h3.size (hf k t)⟩
  have := h1'.lt s
  have := hf k t
  omega
def PrC (w0 : World) (h : Nat) (A : List Sp.Inc) (rb : Nat) (B : List Sp.Inc) (en : Ending) (w' : World) : Prop := ∃ z : Int, en = .returned (.int .i64 z) ∧ Pr w0 w' h A rb B
theorem Pr3.addc {w0 w : World} {h rb c : Nat} {A B D : List Sp.Inc} (H : Pr3 w0 w h A rb B c D) (e : Nat) (x : Sp.Inc) (he : e < 4294967296) (hx : IncOk x) :
    Calls Try.prog 17 #[.pointer (some ⟨c, 0, none⟩), .int .u32 (e : Int), incV x] w (PrC w0 h A rb B) := by
  obtain ⟨S, T, Sc, h1, h2, h3, h4, h5, h6, h7, h8⟩ := H
  refine (add_any c D Sc e x w h3 he hx).mono ?_
  rintro en w' ⟨rfl, S2, hq, hu, hf⟩
  exact ⟨_, rfl, S, T, h1.apart h3 h7 hu, h2.keep hu (fun k s t => hs_rhs h3 h2 k s t), h4.trans' hu (fun k hk s => by have := h8 k s; omega), h5, h6⟩
theorem quiet_run {P : Program} {C : World → Prop} {o : Oper} {a : Act} {K : Act → Prop} (v : Value) (h : ∀ w, C w → (execOp a.eval o).run P w = .ok (.value v) w) (hk : K (a.put o.dst v)) : o.quiet P a C K :=
  ⟨v, fun w hw => by unfold Oper.quietAt; rw [h w hw]; exact ⟨rfl, rfl⟩, hk⟩
theorem quiet_skip {P : Program} {C : World → Prop} {o : Oper} {a : Act} {K : Act → Prop} (h : ∀ w, C w → (execOp a.eval o).run P w = .ok .skip w) (hk : K (a.put o.dst undef)) : o.quiet P a C K :=
  ⟨undef, fun w hw => by unfold Oper.quietAt; rw [h w hw]; exact ⟨rfl, rfl⟩, hk⟩
theorem quiet_enter {P : Program} {C : World → Prop} {o : Oper} {a : Act} {K : Act → Prop} (f : FuncId) (args : Array Value) (v : Value) (h : ∀ w, C w → (execOp a.eval o).run P w = .ok (.enter f args) w)
    (hc : ∀ w, C w → Calls P f args w (fun e w'' => e = .returned v ∧ C w'')) (hk : K (a.put o.dst v)) : o.quiet P a C K :=
  ⟨v, fun w hw => by unfold Oper.quietAt; rw [h w hw]; exact ⟨rfl, hc w hw⟩, hk⟩
set_option maxRecDepth 10000 in
set_option maxHeartbeats 4000000 in
theorem playsW_any (va : Option Addr) (vc : Nat) (l : List St) (g : Nat) (hg : g < 256) (ep : Nat) (hep : ep < 4294967296) (w : World) (hr : StRow w va l) :
    Calls Try.prog 10 #[.slice va l.length vc, .int .u8 (g : Int), .int .u32 (ep : Int)] w (KnownPost w) := by
  generalize hn : l.length = n at *
  have HROW := hid hr; have HLN := hid hn
  clear hr hn
  have hepi : (ep : Int) ≤ 4294967295 := by omega
  by_cases h30 : n ≤ 30
  · have hni : (n : Int) ≤ 30 := by omega
    go_enter Try.func10, Try.ntmps10
    go_wp2_with fail
    refine (known5_any _).mono ?_
    rintro e w1 ⟨rfl, hu1⟩
    have HN := hid (new_s w1)
    have HU1 := hid hu1
    clear hu1
    go_wp2_with fail
    refine HN.out.mono ?_
    rintro e w2 ⟨h, S, rfl, q1, q2, q3⟩
    have hpr : Pr w (w2.alloc (.cells #[.slice none 0 0] 79)) h [] w2.heap.size [] := by
      refine ⟨S, _, q1.keep0 ((Upd.refl Nix w2).alloc _), ⟨.slice none 0 0, alloc_new w2 _, World.ownsRow_nil _ _ _ _, Sp.Chain.nil, by simp, rfl⟩, (HU1.out.trans q2).alloc _, fun k s => Nat.le_trans HU1.out.size (q3 k s), fun k t => ?_⟩
      rcases t with rfl | t
      · exact (HU1.out.trans q2).size
      · simp [Value.ownBlock] at t
    have HPR := hid hpr
    clear hpr q1 q2 q3 HN HU1
    go_upto_region 6 with (fail)
    change Code.wp _ _ _ _ (w2.alloc (.cells #[.slice none 0 0] 79))
    generalize w2.alloc (.cells #[.slice none 0 0] 79) = w3 at *
    generalize w2.heap.size = rb at *
    go_wp2_with fail
    go_loopw [9] (fun iv wr => ∃ k : Nat, k ≤ n ∧ iv = .int .i64 k ∧ Hid (Pr w wr h (plays (l.take k)) rb (plays (l.take k)))) (fun iv _ => n - (intOf iv).toNat)
    case atStart => exact ⟨0, by omega, rfl, HPR.out⟩
    case round =>
      obtain ⟨k, hk, rfl, HR⟩ := hrel
      clear HPR
      by_cases hlt : k < n
      · obtain ⟨s, hs⟩ : ∃ s, l[k]? = some s := ⟨_, List.getElem?_eq_getElem (by have := HLN.out; omega)⟩
        obtain ⟨hse, hsx, a, rfl, hst⟩ := HROW.out k s hs
        have hki : (k : Int) < (n : Int) := by omega
        have hps := plays_step l k s hs
        have hst' := hst.keep HR.out.upd
        obtain ⟨c0, c1, c2, c3, c4⟩ := hst'
        have HST := hid hst; have HPS := hid hps; have HSX := hid hsx
        generalize plays (l.take k) = A at *
        have hAl : A.length ≤ 59 := by have := HR.out.at.chain; exact this.2
        have hsep : (s.ep : Int) ≤ 4294967295 := by omega
        clear hst hps hsx hs
        obtain ⟨T, hT⟩ := HR.out.ref
        have hrl := rlast_any hT
        rw [show ((A.length + 1 : Nat) : Int) = (A.length : Int) + 1 by omega] at hrl
        have HRL := hid hrl
        clear hrl hT T
        go_upto_if 40 with (fail)
        go_cut [10] (fun ev wx => ev = .int .u32 (stEp A s : Int) ∧ Hid (wr = wx))
        case first =>
          cases hnx : s.next
          · rw [hnx] at c0
            have hE : stEp A s = s.ep := by unfold stEp; rw [hnx]; rfl
            have HE := hid hE
            clear hE hnx
            go_wp2_with fail
            go_meet
            exact ⟨by rw [HE.out], hid (by trivial)⟩
          · rw [hnx] at c0
            have hE : (stEp A s : Int) = (A.length : Int) + 1 + 1 := by unfold stEp; rw [if_pos hnx]; omega
            have HE := hid hE
            clear hE hnx
            go_wp2_with fail
            refine HRL.out.mono ?_
            rintro e w4 ⟨rfl, rfl⟩
            go_wp2_with fail
            go_meet
            exact ⟨by rw [HE.out], hid (by trivial)⟩
        case rest =>
          obtain ⟨rfl, hwx⟩ := hcut
          have hwx2 := hwx.out
          clear hwx
          subst hwx2
          have hE4 : stEp A s < 4294967296 := by unfold stEp; split <;> omega
          have hps := HPS.out
          unfold stepS at hps
          generalize stEp A s = E at *
          have ha1 := (HR.out.keep0 ((Upd.refl Nix wr).drew)).addh E s.x hE4 HSX.out
          have HA1 := hid ha1; have HPS2 := hid hps
          clear ha1 hps
          generalize hadd : Sp.add A E s.x = ad at *
          have HADD := hid hadd
          clear hadd
          go_upto_region 12 with (fail)
          go_cut [60] (fun r wx => r = .bool false ∧ Hid (Pr w wx h ad.2 rb ad.2))
          case first =>
            go_region_held3 (fun w' => w'.cell? ⟨(a.add (k * 5)).block, (a.add (k * 5)).off + 2, none⟩ = some (.int .u8 s.x.kind) ∧ w'.cell? ⟨(a.add (k * 5)).block, (a.add (k * 5)).off + 2 + 1, none⟩ = some (.int .u8 s.x.osd) ∧ w'.cell? ⟨(a.add (k * 5)).block, (a.add (k * 5)).off + 2 + 2, none⟩ = some (.int .i64 s.x.n))
              ((first
                | exact (HST.out.keep HR.out.upd).2.2
                | exact (HST.out.keep hp.out.upd).2.2
                | exact (HST.out.keep hp2.out.upd).2.2))
              (first
                | (go_at_call 17; refine HA1.out.mono ?_; rintro e w4 ⟨rfl, hp0⟩; rw [HADD.out] at hp0; have hp := hid hp0; clear hp0; rw [HADD.out])
                | (go_at_call 31; refine (hp.out.addr E s.x hE4 HSX.out).mono ?_; rintro e w5 ⟨rfl, hp0⟩; rw [HADD.out] at hp0; have hp2 := hid hp0; clear hp0; rw [HADD.out]))
            all_goals go_wp2
            all_goals go_meet
            all_goals exact ⟨rfl, hp2.out⟩
          case rest =>
            obtain ⟨rfl, HC⟩ := hcut
            clear c0 c1 c2 c3 c4
            go_wp2_with fail
            go_roundw
            case rel => exact ⟨k + 1, by omega, by go_num, by rw [HPS2.out]; exact HC.out⟩
            case measure => simp [intOf]; omega
      · obtain rfl : k = n := by omega
        have hl : l.take k = l := by rw [← HLN.out, List.take_length]
        rw [hl] at HR
        have HR2 := hid HR.out
        clear HR hl HROW
        generalize plays l = A at *
        have hAl : A.length ≤ 59 := by have := HR2.out.at.chain; exact this.2
        obtain ⟨T, hT⟩ := HR2.out.ref
        have hal := alike_any HR2.out.at hT g hg
        have HAL := hid hal
        clear hal hT
        go_wp2_with fail
        refine HAL.out.mono ?_
        rintro e w4 ⟨rfl, hu4⟩
        have HP4 := hid (HR2.out.keep0 hu4)
        clear hu4 HAL HR2
        have hmap := map_at HP4.out.at ep
        unfold MapS at hmap
        have HM := hid hmap
        clear hmap
        go_wp2_with fail
        refine HM.out.mono ?_
        rintro e w5 ⟨rfl, hu5⟩
        have HP5 := hid (HP4.out.keep0 hu5)
        clear hu5 HM HP4
        have hmr : 1 ≤ ep ∧ ep ≤ A.length + 1 → mapAt A ep = Sp.lastMap (A.take (ep - 1)) := fun h => by unfold mapAt; rw [if_pos h]
        have HMR := hid hmr
        clear hmr
        generalize hok : decide (1 ≤ ep ∧ ep ≤ A.length + 1) = OK at *
        have HOK := hid hok
        clear hok
        generalize mapAt A ep = m at *
        go_upto_region 17 with ((with_reducible refine at_store 57 (.tmp 11) (.tmp 70) ?_); refine wpList_store_row rfl 57 (.tmp 11) (.tmp 70) rfl w5.heap.size rfl (mpArr m) rfl 57 zeroArr (alloc_new w5 _) rfl size57 rfl ?_)
        change Code.wp _ _ _ _ ((w5.alloc (.cells zeroArr 57)).setRow w5.heap.size (mpArr m))
        have hus : Upd Nix w5 ((w5.alloc (.cells zeroArr 57)).setRow w5.heap.size (mpArr m)) := ((Upd.refl _ _).alloc _).setRow (.inr (Nat.le_refl _)) _
        have HB11 := hid (setRow_new (mpArr m) (alloc_new w5 (.cells zeroArr 57)))
        have HP6 := hid (HP5.out.keep0 hus)
        clear hus HP5
        generalize (w5.alloc (.cells zeroArr 57)).setRow w5.heap.size (mpArr m) = w6 at *
        generalize w5.heap.size = b11 at *
        have hinc := inc_at HP6.out.at ep
        unfold IncS at hinc
        have HI := hid hinc
        clear hinc
        go_wp2_with fail
        refine HI.out.mono ?_
        rintro e w7 ⟨rfl, hu7⟩
        have HP7 := hid (HP6.out.keep0 hu7)
        have HB11b := hid (hu7.keep HB11.out (fun f => f))
        clear hu7 HI HP6 HB11
        generalize his : decide (2 ≤ ep ∧ ep < A.length + 2) = IS at *
        have HIS := hid his
        clear his
        have hxr : ∀ r, ep = r + 2 → r < A.length → A[r]? = some (incOf A ep) := fun r h1 h2 => by
          subst h1
          unfold incOf
          rw [if_pos (by omega), List.getD_eq_getElem?_getD, show r + 2 - 2 = r by omega, List.getElem?_eq_getElem h2]
          rfl
        have HXR := hid hxr
        clear hxr
        generalize incOf A ep = x at *
        go_upto_region 18 with ((with_reducible refine at_store 50 (.tmp 13) (.tmp 76) ?_); refine wpList_store_row rfl 50 (.tmp 13) (.tmp 76) rfl w7.heap.size rfl (incArr x) rfl 50 zeroArr3 (alloc_new w7 _) rfl size50 rfl ?_)
        change Code.wp _ _ _ _ ((w7.alloc (.cells zeroArr3 50)).setRow w7.heap.size (incArr x))
        have hus : Upd Nix w7 ((w7.alloc (.cells zeroArr3 50)).setRow w7.heap.size (incArr x)) := ((Upd.refl _ _).alloc _).setRow (.inr (Nat.le_refl _)) _
        have HB13 := hid (setRow_new (incArr x) (alloc_new w7 (.cells zeroArr3 50)))
        have HB11 := hid (hus.keep HB11b.out (fun f => f))
        have HP8 := hid (HP7.out.keep0 hus)
        clear hus HP7 HB11b
        generalize (w7.alloc (.cells zeroArr3 50)).setRow w7.heap.size (incArr x) = w8 at *
        generalize w7.heap.size = b13 at *
        obtain ⟨T, hT⟩ := HP8.out.ref
        have hrl := rlast_any hT
        rw [show ((A.length + 1 : Nat) : Int) = (A.length : Int) + 1 by omega] at hrl
        have HRL := hid hrl; have HRT := hid hT
        clear hrl hT
        go_cut [15] (fun r wx => r = .bool OK ∧ Hid (w8 = wx))
        case first =>
          by_cases e1 : 1 ≤ ep
          · have e1i : (1 : Int) ≤ (ep : Int) := by omega
            by_cases e2 : ep ≤ A.length + 1
            · have e2i : (ep : Int) ≤ (A.length : Int) + 1 := by omega
              have hO : OK = true := by rw [← HOK.out]; exact decide_eq_true ⟨e1, e2⟩
              subst hO
              clear e1 e2
              go_wp2_with fail
              refine HRL.out.mono ?_
              rintro e w9 ⟨rfl, rfl⟩
              go_wp2_with fail
              go_meet
              exact ⟨rfl, hid (by trivial)⟩
            · have e2i : (A.length : Int) + 1 < (ep : Int) := by omega
              have hO : OK = false := by rw [← HOK.out]; exact decide_eq_false (fun h => e2 h.2)
              subst hO
              clear e1 e2
              go_wp2_with fail
              refine HRL.out.mono ?_
              rintro e w9 ⟨rfl, rfl⟩
              go_wp2_with fail
              go_meet
              exact ⟨by rw [decide_eq_false (by omega)], hid (by trivial)⟩
          · have e1i : (ep : Int) < 1 := by omega
            have hO : OK = false := by rw [← HOK.out]; exact decide_eq_false (fun h => e1 h.1)
            subst hO
            clear e1
            go_wp2_with fail
            go_meet
            exact ⟨rfl, hid (by trivial)⟩
        case rest =>
          obtain ⟨rfl, hwx⟩ := hcut
          have hwx2 := hwx.out
          clear hwx
          subst hwx2
          have hrm := fun w' (hu : Upd Nix w8 w') => rmap_any (HRT.out.keep0 hu) ep hep
          unfold RMapPost at hrm
          have HRM := hid hrm
          clear hrm HRL
          go_upto_region 19 with (fail)
          go_cut [122] (fun r wx => r = .bool false ∧ Hid (Upd Nix w8 wx))
          case first =>
            cases OK
            · have hI : IS = false := by
                rw [← HIS.out]
                refine decide_eq_false (fun h => ?_)
                have := HOK.out
                rw [decide_eq_false_iff_not] at this
                omega
              subst hI
              go_quiet (fail)
              go_wp2
              go_meet
              exact ⟨rfl, (Upd.refl Nix w8).drewN _⟩
            · have hep1 : 1 ≤ ep ∧ ep ≤ A.length + 1 := of_decide_eq_true HOK.out
              have hm := HMR.out hep1
              rw [← hm] at HRM
              have hneq := neq57 m
              obtain ⟨j0, j1, j2, j3, j4, j5, j6, j7, j8, j9, j10, j11, j12, j13, j14, j15⟩ := mp_cells HB11.out
              by_cases e2 : 2 ≤ ep
              · obtain ⟨r, hr⟩ : ∃ r, ep = r + 2 := ⟨ep - 2, by omega⟩
                have hI : IS = true := by rw [← HIS.out]; exact decide_eq_true ⟨e2, by omega⟩
                subst hI
                have hx := HXR.out r hr (by omega)
                have hr1 : r < A.length := by omega
                have hri : (r : Int) < (A.length : Int) := by omega
                have HRA := hid hri
                have hwr : IntKind.u32.wrap ((ep : Int) - 2) = (r : Int) := by
                  rw [show (ep : Int) - 2 = (r : Int) by omega]
                  simp only [IntKind.wrap, IntKind.signed, IntKind.bits]; simp; omega
                have HWR := hid hwr
                have e2i : (2 : Int) ≤ (ep : Int) := by omega
                obtain ⟨v2, z1, z2, z3, z4, z5⟩ := HRT.out
                obtain ⟨c, vc2, rfl⟩ : ∃ c vc2, v2 = .slice (some ⟨c, 0, none⟩) A.length vc2 := by
                  rcases z2.2 with ⟨_, h0⟩ | ⟨c, cap, cur, hv, _⟩
                  · omega
                  · exact ⟨c, cap, hv⟩
                have href : ∀ w', Upd Nix w8 w' → w'.cell? ⟨rb, 0, none⟩ = some (.slice (some ⟨c, 0, none⟩) A.length vc2) ∧ w'.cell? ⟨c, r * 3, none⟩ = some (.int .u8 x.kind) ∧ w'.cell? ⟨c, r * 3 + 1, none⟩ = some (.int .u8 x.osd) ∧ w'.cell? ⟨c, r * 3 + 2, none⟩ = some (.int .i64 x.n) := by
                  intro w' hu
                  obtain ⟨y0, y1, y2⟩ := IncRow.cells (base := 0) (cap := vc2) (row_keep z2 hu (fun _ _ f => f)) hx
                  exact ⟨by rw [cell_blk (hu.keep z1 (fun f => f))]; rfl, y0, y1, y2⟩
                have HREF := hid href
                clear hm hep1 e2 hneq j0 j1 j2 j3 j4 j5 j6 j7 j8 j9 j10 j11 j12 j13 j14 j15 hr hx hri hwr z1 z2 z3 z4 z5 href
                refine wp_region_quiet (C := fun w' => Upd Nix w8 w') (by kernel_rfl) (by kernel_rfl) ((Upd.refl Nix w8).drew) ?_
                refine BigFrame.wpQuiet_want (by rfl) (fun K hK => quiet_run (.bool true) (fun wq hq => ?_) (hK _ ?_))
                · clear hK K
                  go_simp
                clear hK K
                (try simp only [Act.put, List.setIfInBounds_toArray, List.set_cons_zero, List.set_cons_succ])
                refine BigFrame.wpQuiet_want (by rfl) (fun K hK => quiet_run (.bool true) (fun wq hq => ?_) (hK _ ?_))
                · clear hK K
                  go_simp
                clear hK K
                (try simp only [Act.put, List.setIfInBounds_toArray, List.set_cons_zero, List.set_cons_succ])
                refine BigFrame.wpQuiet_want (by rfl) (fun K hK => quiet_run (.bool false) (fun wq hq => ?_) (hK _ ?_))
                · clear hK K
                  go_simp
                clear hK K
                (try simp only [Act.put, List.setIfInBounds_toArray, List.set_cons_zero, List.set_cons_succ])
                refine BigFrame.wpQuiet_want (by rfl) (fun K hK => quiet_run (.bool false) (fun wq hq => ?_) (hK _ ?_))
                · clear hK K
                  go_simp
                clear hK K
                (try simp only [Act.put, List.setIfInBounds_toArray, List.set_cons_zero, List.set_cons_succ])
                refine BigFrame.wpQuiet_want (by rfl) (fun K hK => quiet_run (.bool true) (fun wq hq => ?_) (hK _ ?_))
                · clear hK K
                  go_simp
                clear hK K
                (try simp only [Act.put, List.setIfInBounds_toArray, List.set_cons_zero, List.set_cons_succ])
                refine BigFrame.wpQuiet_want (by rfl) (fun K hK => quiet_run (.bool true) (fun wq hq => ?_) (hK _ ?_))
                · clear hK K
                  go_simp
                clear hK K
                (try simp only [Act.put, List.setIfInBounds_toArray, List.set_cons_zero, List.set_cons_succ])
                refine BigFrame.wpQuiet_want (by rfl) (fun K hK => quiet_run (.bool true) (fun wq hq => ?_) (hK _ ?_))
                · clear hK K
                  go_simp
                clear hK K
                (try simp only [Act.put, List.setIfInBounds_toArray, List.set_cons_zero, List.set_cons_succ])
                refine BigFrame.wpQuiet_want (by rfl) (fun K hK => quiet_run (.int .u32 (ep : Int)) (fun wq hq => ?_) (hK _ ?_))
                · clear hK K
                  go_simp
                clear hK K
                (try simp only [Act.put, List.setIfInBounds_toArray, List.set_cons_zero, List.set_cons_succ])
                refine BigFrame.wpQuiet_want (by rfl) (fun K hK => quiet_run (.bool true) (fun wq hq => ?_) (hK _ ?_))
                · clear hK K
                  go_simp
                clear hK K
                (try simp only [Act.put, List.setIfInBounds_toArray, List.set_cons_zero, List.set_cons_succ])
                refine BigFrame.wpQuiet_want (by rfl) (fun K hK => quiet_run (.bool true) (fun wq hq => ?_) (hK _ ?_))
                · clear hK K
                  go_simp
                clear hK K
                (try simp only [Act.put, List.setIfInBounds_toArray, List.set_cons_zero, List.set_cons_succ])
                refine BigFrame.wpQuiet_want (by rfl) (fun K hK => quiet_run (.bool false) (fun wq hq => ?_) (hK _ ?_))
                · clear hK K
                  go_simp
                clear hK K
                (try simp only [Act.put, List.setIfInBounds_toArray, List.set_cons_zero, List.set_cons_succ])
                refine BigFrame.wpQuiet_want (by rfl) (fun K hK => quiet_run (.bool false) (fun wq hq => ?_) (hK _ ?_))
                · clear hK K
                  go_simp
                clear hK K
                (try simp only [Act.put, List.setIfInBounds_toArray, List.set_cons_zero, List.set_cons_succ])
                refine BigFrame.wpQuiet_want (by rfl) (fun K hK => quiet_run (.bool false) (fun wq hq => ?_) (hK _ ?_))
                · clear hK K
                  go_simp
                clear hK K
                (try simp only [Act.put, List.setIfInBounds_toArray, List.set_cons_zero, List.set_cons_succ])
                refine BigFrame.wpQuiet_want (by rfl) (fun K hK => quiet_run (.bool true) (fun wq hq => ?_) (hK _ ?_))
                · clear hK K
                  go_simp
                clear hK K
                (try simp only [Act.put, List.setIfInBounds_toArray, List.set_cons_zero, List.set_cons_succ])
                refine BigFrame.wpQuiet_want (by rfl) (fun K hK => quiet_run (.bool true) (fun wq hq => ?_) (hK _ ?_))
                · clear hK K
                  go_simp
                clear hK K
                (try simp only [Act.put, List.setIfInBounds_toArray, List.set_cons_zero, List.set_cons_succ])
                refine BigFrame.wpQuiet_want (by rfl) (fun K hK => quiet_run (mpV m) (fun wq hq => ?_) (hK _ ?_))
                · clear hK K
                  obtain ⟨k0, k1, k2, k3, k4, k5, k6, k7, k8, k9, k10, k11, k12, k13, k14, k15⟩ := mp_cells (Upd.keep (F := Nix) hq HB11.out (fun f => f))
                  go_simp
                clear hK K
                (try simp only [Act.put, List.setIfInBounds_toArray, List.set_cons_zero, List.set_cons_succ])
                refine BigFrame.wpQuiet_want (by rfl) (fun K hK => quiet_run (.pointer (some ⟨rb, 0, none⟩)) (fun wq hq => ?_) (hK _ ?_))
                · clear hK K
                  go_simp
                clear hK K
                (try simp only [Act.put, List.setIfInBounds_toArray, List.set_cons_zero, List.set_cons_succ])
                refine BigFrame.wpQuiet_want (by rfl) (fun K hK => quiet_run (.int .u32 (ep : Int)) (fun wq hq => ?_) (hK _ ?_))
                · clear hK K
                  go_simp
                clear hK K
                (try simp only [Act.put, List.setIfInBounds_toArray, List.set_cons_zero, List.set_cons_succ])
                refine BigFrame.wpQuiet_want (by rfl) (fun K hK => quiet_enter 33 #[.pointer (some ⟨rb, 0, none⟩), .int .u32 (ep : Int)] (mpV m) (fun wq hq => ?_) (fun wq hq => ?_) (hK _ ?_))
                · clear hK K
                  go_simp
                · clear hK K
                  refine (HRM.out _ hq).mono ?_
                  rintro e w20 ⟨rfl, hu20⟩
                  exact ⟨rfl, Upd.trans hq hu20⟩
                clear hK K
                (try simp only [Act.put, List.setIfInBounds_toArray, List.set_cons_zero, List.set_cons_succ])
                refine BigFrame.wpQuiet_want (by rfl) (fun K hK => quiet_run (.bool false) (fun wq hq => ?_) (hK _ ?_))
                · clear hK K
                  have hneq := neq57 m
                  go_simp
                clear hK K
                (try simp only [Act.put, List.setIfInBounds_toArray, List.set_cons_zero, List.set_cons_succ])
                refine BigFrame.wpQuiet_want (by rfl) (fun K hK => quiet_run (.bool false) (fun wq hq => ?_) (hK _ ?_))
                · clear hK K
                  go_simp
                clear hK K
                (try simp only [Act.put, List.setIfInBounds_toArray, List.set_cons_zero, List.set_cons_succ])
                refine BigFrame.wpQuiet_want (by rfl) (fun K hK => quiet_run (.bool false) (fun wq hq => ?_) (hK _ ?_))
                · clear hK K
                  go_simp
                clear hK K
                (try simp only [Act.put, List.setIfInBounds_toArray, List.set_cons_zero, List.set_cons_succ])
                refine BigFrame.wpQuiet_want (by rfl) (fun K hK => quiet_run (.bool false) (fun wq hq => ?_) (hK _ ?_))
                · clear hK K
                  go_simp
                clear hK K
                (try simp only [Act.put, List.setIfInBounds_toArray, List.set_cons_zero, List.set_cons_succ])
                refine BigFrame.wpQuiet_want (by rfl) (fun K hK => quiet_run (.bool true) (fun wq hq => ?_) (hK _ ?_))
                · clear hK K
                  go_simp
                clear hK K
                (try simp only [Act.put, List.setIfInBounds_toArray, List.set_cons_zero, List.set_cons_succ])
                refine BigFrame.wpQuiet_want (by rfl) (fun K hK => quiet_run (.bool true) (fun wq hq => ?_) (hK _ ?_))
                · clear hK K
                  go_simp
                clear hK K
                (try simp only [Act.put, List.setIfInBounds_toArray, List.set_cons_zero, List.set_cons_succ])
                refine BigFrame.wpQuiet_want (by rfl) (fun K hK => quiet_run (incV x) (fun wq hq => ?_) (hK _ ?_))
                · clear hK K
                  obtain ⟨y0, y1, y2⟩ := inc_blk' (Upd.keep (F := Nix) hq HB13.out (fun f => f))
                  go_simp
                clear hK K
                (try simp only [Act.put, List.setIfInBounds_toArray, List.set_cons_zero, List.set_cons_succ])
                refine BigFrame.wpQuiet_want (by rfl) (fun K hK => quiet_run (.pointer (some ⟨rb, 0, none⟩)) (fun wq hq => ?_) (hK _ ?_))
                · clear hK K
                  go_simp
                clear hK K
                (try simp only [Act.put, List.setIfInBounds_toArray, List.set_cons_zero, List.set_cons_succ])
                refine BigFrame.wpQuiet_want (by rfl) (fun K hK => quiet_run (.pointer (some ⟨rb, 0, none⟩)) (fun wq hq => ?_) (hK _ ?_))
                · clear hK K
                  go_simp
                clear hK K
                (try simp only [Act.put, List.setIfInBounds_toArray, List.set_cons_zero, List.set_cons_succ])
                refine BigFrame.wpQuiet_want (by rfl) (fun K hK => quiet_run (.pointer (some ⟨rb, 0, none⟩)) (fun wq hq => ?_) (hK _ ?_))
                · clear hK K
                  go_simp
                clear hK K
                (try simp only [Act.put, List.setIfInBounds_toArray, List.set_cons_zero, List.set_cons_succ])
                refine BigFrame.wpQuiet_want (by rfl) (fun K hK => quiet_run (.slice (some ⟨c, 0, none⟩) A.length vc2) (fun wq hq => ?_) (hK _ ?_))
                · clear hK K
                  obtain ⟨crb, _, _, _⟩ := HREF.out wq hq
                  go_simp
                clear hK K
                (try simp only [Act.put, List.setIfInBounds_toArray, List.set_cons_zero, List.set_cons_succ])
                refine BigFrame.wpQuiet_want (by rfl) (fun K hK => quiet_run (.int .u32 (ep : Int)) (fun wq hq => ?_) (hK _ ?_))
                · clear hK K
                  go_simp
                clear hK K
                (try simp only [Act.put, List.setIfInBounds_toArray, List.set_cons_zero, List.set_cons_succ])
                refine BigFrame.wpQuiet_want (by rfl) (fun K hK => quiet_run (.int .u32 (r : Int)) (fun wq hq => ?_) (hK _ ?_))
                · clear hK K
                  have hwr := HWR.out
                  go_simp
                clear hK K
                (try simp only [Act.put, List.setIfInBounds_toArray, List.set_cons_zero, List.set_cons_succ])
                refine BigFrame.wpQuiet_want (by rfl) (fun K hK => quiet_run (.pointer (some ⟨c, r * 3, none⟩)) (fun wq hq => ?_) (hK _ ?_))
                · clear hK K
                  have hra := HRA.out
                  go_simp
                clear hK K
                (try simp only [Act.put, List.setIfInBounds_toArray, List.set_cons_zero, List.set_cons_succ])
                refine BigFrame.wpQuiet_want (by rfl) (fun K hK => quiet_run (incV x) (fun wq hq => ?_) (hK _ ?_))
                · clear hK K
                  obtain ⟨_, y0, y1, y2⟩ := HREF.out wq hq
                  go_simp
                clear hK K
                (try simp only [Act.put, List.setIfInBounds_toArray, List.set_cons_zero, List.set_cons_succ])
                refine BigFrame.wpQuiet_want (by rfl) (fun K hK => quiet_run (.bool false) (fun wq hq => ?_) (hK _ ?_))
                · clear hK K
                  have hneq := neq50 x
                  go_simp
                clear hK K
                (try simp only [Act.put, List.setIfInBounds_toArray, List.set_cons_zero, List.set_cons_succ])
                refine BigFrame.wpQuiet_want (by rfl) (fun K hK => quiet_run (.bool false) (fun wq hq => ?_) (hK _ ?_))
                · clear hK K
                  go_simp
                clear hK K
                (try simp only [Act.put, List.setIfInBounds_toArray, List.set_cons_zero, List.set_cons_succ])
                refine BigFrame.wpQuiet_want (by rfl) (fun K hK => quiet_run (.bool false) (fun wq hq => ?_) (hK _ ?_))
                · clear hK K
                  go_simp
                clear hK K
                (try simp only [Act.put, List.setIfInBounds_toArray, List.set_cons_zero, List.set_cons_succ])
                refine wpQuiet_nil ?_
                intro wq hq
                go_wp2
                go_meet
                exact ⟨rfl, hq⟩
              · have hI : IS = false := by rw [← HIS.out]; exact decide_eq_false (fun h => e2 h.1)
                subst hI
                have e2i : decide ((2 : Int) ≤ (ep : Int)) = false := by rw [decide_eq_false_iff_not]; omega
                have e2n : decide (2 ≤ ep) = false := by rw [decide_eq_false_iff_not]; omega
                clear hm hep1 e2 hneq j0 j1 j2 j3 j4 j5 j6 j7 j8 j9 j10 j11 j12 j13 j14 j15
                refine wp_region_quiet (C := fun w' => Upd Nix w8 w') (by kernel_rfl) (by kernel_rfl) ((Upd.refl Nix w8).drew) ?_
                refine BigFrame.wpQuiet_want (by rfl) (fun K hK => quiet_run (.bool true) (fun wq hq => ?_) (hK _ ?_))
                · clear hK K
                  go_simp
                clear hK K
                (try simp only [Act.put, List.setIfInBounds_toArray, List.set_cons_zero, List.set_cons_succ])
                refine BigFrame.wpQuiet_want (by rfl) (fun K hK => quiet_run (.bool true) (fun wq hq => ?_) (hK _ ?_))
                · clear hK K
                  go_simp
                clear hK K
                (try simp only [Act.put, List.setIfInBounds_toArray, List.set_cons_zero, List.set_cons_succ])
                refine BigFrame.wpQuiet_want (by rfl) (fun K hK => quiet_run (.bool false) (fun wq hq => ?_) (hK _ ?_))
                · clear hK K
                  go_simp
                clear hK K
                (try simp only [Act.put, List.setIfInBounds_toArray, List.set_cons_zero, List.set_cons_succ])
                refine BigFrame.wpQuiet_want (by rfl) (fun K hK => quiet_run (.bool false) (fun wq hq => ?_) (hK _ ?_))
                · clear hK K
                  go_simp
                clear hK K
                (try simp only [Act.put, List.setIfInBounds_toArray, List.set_cons_zero, List.set_cons_succ])
                refine BigFrame.wpQuiet_want (by rfl) (fun K hK => quiet_run (.bool false) (fun wq hq => ?_) (hK _ ?_))
                · clear hK K
                  go_simp
                clear hK K
                (try simp only [Act.put, List.setIfInBounds_toArray, List.set_cons_zero, List.set_cons_succ])
                refine BigFrame.wpQuiet_want (by rfl) (fun K hK => quiet_run (.bool true) (fun wq hq => ?_) (hK _ ?_))
                · clear hK K
                  go_simp
                clear hK K
                (try simp only [Act.put, List.setIfInBounds_toArray, List.set_cons_zero, List.set_cons_succ])
                refine BigFrame.wpQuiet_want (by rfl) (fun K hK => quiet_run (.bool true) (fun wq hq => ?_) (hK _ ?_))
                · clear hK K
                  go_simp
                clear hK K
                (try simp only [Act.put, List.setIfInBounds_toArray, List.set_cons_zero, List.set_cons_succ])
                refine BigFrame.wpQuiet_want (by rfl) (fun K hK => quiet_run (.int .u32 (ep : Int)) (fun wq hq => ?_) (hK _ ?_))
                · clear hK K
                  go_simp
                clear hK K
                (try simp only [Act.put, List.setIfInBounds_toArray, List.set_cons_zero, List.set_cons_succ])
                refine BigFrame.wpQuiet_want (by rfl) (fun K hK => quiet_run (.bool false) (fun wq hq => ?_) (hK _ ?_))
                · clear hK K
                  go_simp
                clear hK K
                (try simp only [Act.put, List.setIfInBounds_toArray, List.set_cons_zero, List.set_cons_succ])
                refine BigFrame.wpQuiet_want (by rfl) (fun K hK => quiet_run (.bool false) (fun wq hq => ?_) (hK _ ?_))
                · clear hK K
                  go_simp
                clear hK K
                (try simp only [Act.put, List.setIfInBounds_toArray, List.set_cons_zero, List.set_cons_succ])
                refine BigFrame.wpQuiet_want (by rfl) (fun K hK => quiet_run (.bool false) (fun wq hq => ?_) (hK _ ?_))
                · clear hK K
                  go_simp
                clear hK K
                (try simp only [Act.put, List.setIfInBounds_toArray, List.set_cons_zero, List.set_cons_succ])
                refine BigFrame.wpQuiet_want (by rfl) (fun K hK => quiet_run (.bool false) (fun wq hq => ?_) (hK _ ?_))
                · clear hK K
                  go_simp
                clear hK K
                (try simp only [Act.put, List.setIfInBounds_toArray, List.set_cons_zero, List.set_cons_succ])
                refine BigFrame.wpQuiet_want (by rfl) (fun K hK => quiet_run (.bool false) (fun wq hq => ?_) (hK _ ?_))
                · clear hK K
                  go_simp
                clear hK K
                (try simp only [Act.put, List.setIfInBounds_toArray, List.set_cons_zero, List.set_cons_succ])
                refine BigFrame.wpQuiet_want (by rfl) (fun K hK => quiet_run (.bool true) (fun wq hq => ?_) (hK _ ?_))
                · clear hK K
                  go_simp
                clear hK K
                (try simp only [Act.put, List.setIfInBounds_toArray, List.set_cons_zero, List.set_cons_succ])
                refine BigFrame.wpQuiet_want (by rfl) (fun K hK => quiet_run (.bool true) (fun wq hq => ?_) (hK _ ?_))
                · clear hK K
                  go_simp
                clear hK K
                (try simp only [Act.put, List.setIfInBounds_toArray, List.set_cons_zero, List.set_cons_succ])
                refine BigFrame.wpQuiet_want (by rfl) (fun K hK => quiet_run (mpV m) (fun wq hq => ?_) (hK _ ?_))
                · clear hK K
                  obtain ⟨k0, k1, k2, k3, k4, k5, k6, k7, k8, k9, k10, k11, k12, k13, k14, k15⟩ := mp_cells (Upd.keep (F := Nix) hq HB11.out (fun f => f))
                  go_simp
                clear hK K
                (try simp only [Act.put, List.setIfInBounds_toArray, List.set_cons_zero, List.set_cons_succ])
                refine BigFrame.wpQuiet_want (by rfl) (fun K hK => quiet_run (.pointer (some ⟨rb, 0, none⟩)) (fun wq hq => ?_) (hK _ ?_))
                · clear hK K
                  go_simp
                clear hK K
                (try simp only [Act.put, List.setIfInBounds_toArray, List.set_cons_zero, List.set_cons_succ])
                refine BigFrame.wpQuiet_want (by rfl) (fun K hK => quiet_run (.int .u32 (ep : Int)) (fun wq hq => ?_) (hK _ ?_))
                · clear hK K
                  go_simp
                clear hK K
                (try simp only [Act.put, List.setIfInBounds_toArray, List.set_cons_zero, List.set_cons_succ])
                refine BigFrame.wpQuiet_want (by rfl) (fun K hK => quiet_enter 33 #[.pointer (some ⟨rb, 0, none⟩), .int .u32 (ep : Int)] (mpV m) (fun wq hq => ?_) (fun wq hq => ?_) (hK _ ?_))
                · clear hK K
                  go_simp
                · clear hK K
                  refine (HRM.out _ hq).mono ?_
                  rintro e w20 ⟨rfl, hu20⟩
                  exact ⟨rfl, Upd.trans hq hu20⟩
                clear hK K
                (try simp only [Act.put, List.setIfInBounds_toArray, List.set_cons_zero, List.set_cons_succ])
                refine BigFrame.wpQuiet_want (by rfl) (fun K hK => quiet_run (.bool false) (fun wq hq => ?_) (hK _ ?_))
                · clear hK K
                  have hneq := neq57 m
                  go_simp
                clear hK K
                (try simp only [Act.put, List.setIfInBounds_toArray, List.set_cons_zero, List.set_cons_succ])
                refine BigFrame.wpQuiet_want (by rfl) (fun K hK => quiet_run (.bool false) (fun wq hq => ?_) (hK _ ?_))
                · clear hK K
                  go_simp
                clear hK K
                (try simp only [Act.put, List.setIfInBounds_toArray, List.set_cons_zero, List.set_cons_succ])
                refine BigFrame.wpQuiet_want (by rfl) (fun K hK => quiet_run (.bool false) (fun wq hq => ?_) (hK _ ?_))
                · clear hK K
                  go_simp
                clear hK K
                (try simp only [Act.put, List.setIfInBounds_toArray, List.set_cons_zero, List.set_cons_succ])
                refine BigFrame.wpQuiet_want (by rfl) (fun K hK => quiet_run (.bool false) (fun wq hq => ?_) (hK _ ?_))
                · clear hK K
                  go_simp
                clear hK K
                (try simp only [Act.put, List.setIfInBounds_toArray, List.set_cons_zero, List.set_cons_succ])
                refine BigFrame.wpQuiet_want (by rfl) (fun K hK => quiet_run (.bool false) (fun wq hq => ?_) (hK _ ?_))
                · clear hK K
                  go_simp
                clear hK K
                (try simp only [Act.put, List.setIfInBounds_toArray, List.set_cons_zero, List.set_cons_succ])
                refine BigFrame.wpQuiet_want (by rfl) (fun K hK => quiet_run (.bool false) (fun wq hq => ?_) (hK _ ?_))
                · clear hK K
                  go_simp
                clear hK K
                (try simp only [Act.put, List.setIfInBounds_toArray, List.set_cons_zero, List.set_cons_succ])
                go_big_quiet_skip
                go_big_quiet_skip
                go_big_quiet_skip
                go_big_quiet_skip
                go_big_quiet_skip
                go_big_quiet_skip
                go_big_quiet_skip
                go_big_quiet_skip
                go_big_quiet_skip
                go_big_quiet_skip
                refine BigFrame.wpQuiet_want (by rfl) (fun K hK => quiet_run (.bool false) (fun wq hq => ?_) (hK _ ?_))
                · clear hK K
                  go_simp
                clear hK K
                (try simp only [Act.put, List.setIfInBounds_toArray, List.set_cons_zero, List.set_cons_succ])
                refine BigFrame.wpQuiet_want (by rfl) (fun K hK => quiet_run (.bool false) (fun wq hq => ?_) (hK _ ?_))
                · clear hK K
                  go_simp
                clear hK K
                (try simp only [Act.put, List.setIfInBounds_toArray, List.set_cons_zero, List.set_cons_succ])
                refine wpQuiet_nil ?_
                intro wq hq
                go_wp2
                go_meet
                exact ⟨rfl, hq⟩
          case rest =>
            obtain ⟨rfl, HU9⟩ := hcut
            have HP9 := hid (HP8.out.keep0 HU9.out)
            have HCP := hid HP9.out.copy
            clear HU9 HP8 HRM HRT HMR HXR HIS HOK HB11 HB13
            go_wp2_with fail
            refine HCP.out.mono ?_
            rintro e w20 ⟨c, rfl, hp3⟩
            have hla := last_at hp3.atc
            rw [show ((A.length + 1 : Nat) : Int) = (A.length : Int) + 1 by omega] at hla
            have hac := hp3.addc (A.length + 2) inone (by omega) inone_ok
            rw [show ((A.length + 2 : Nat) : Int) = (A.length : Int) + 1 + 1 by omega] at hac
            have HLA := hid hla; have HAC := hid hac
            clear hp3 hla hac HCP HP9
            have hAi : (A.length : Int) ≤ 59 := by omega
            go_wp2_with fail
            refine HLA.out.mono ?_
            rintro e w21 ⟨rfl, rfl⟩
            go_wp2_with fail
            refine HAC.out.mono ?_
            rintro e w22 ⟨z, rfl, hp⟩
            obtain ⟨T2, hT2⟩ := hp.ref
            have hal := alike_any hp.at hT2 g hg
            have HAL := hid hal; have HPF := hid hp
            clear hal hT2 hp HLA HAC
            go_wp2_with fail
            refine HAL.out.mono ?_
            rintro e w23 ⟨rfl, hu23⟩
            have HUF := hid (HPF.out.upd.trans hu23)
            clear hu23 HAL
            go_wp2_with fail
            go_ret
            exact ⟨rfl, HUF.out⟩
  · have hni : (30 : Int) < (n : Int) := by omega
    go_enter Try.func10, Try.ntmps10
    go_wp2_with fail
    refine (known5_any _).mono ?_
    rintro e w1 ⟨rfl, hu1⟩
    have HU1 := hid hu1
    clear hu1
    go_wp2_with fail
    go_ret
    exact ⟨rfl, HU1.out⟩
end Go.Proofs.Ytmkpljbkmkbnjaa

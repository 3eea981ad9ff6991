/- A row of spellings as cells: what a store and clear leave (plain). -/
import Derived.Test.YtjiijgdkdlelhaaGreatDoorGrowsM28
import Derived.Shelf.SlSortCmp.NoneTotal
import Derived.Ground.SlsfProg
import Derived.Lib.SliceRun
/- slices.SortFunc at spellings: the library's contract, laid by the shelf's tools. -/
namespace Go.Proofs
open Go.Shelf
def Tryz.sortK_ren : Go.Shelf.Ren := ⟨fun | 6 => 65 | 15 => 117 | 14 => 116 | 28 => 178 | 29 => 179 | 20 => 170 | 21 => 171 | 22 => 172 | 23 => 173 | 24 => 174 | 25 => 175 | 26 => 176 | 27 => 177 | 46 => 234 | 47 => 235 | 48 => 236 | 49 => 237 | 50 => 238 | 57 => 272 | n => n, fun | 22 => 36 | 24 => 42 | 25 => 116 | 3 => 3 | 39 => 141 | 0 => 0 | 53 => 202 | 55 => 205 | 4 => 4 | 46 => 245 | 45 => 244 | 50 => 159 | 5 => 5 | 9 => 9 | 66 => 301 | 70 => 305 | 76 => 336 | 77 => 337 | n => n, fun | n => n⟩
theorem Tryz.sortK : Go.Proofs.SlLaysF0.n6 Tryz.prog Tryz.sortK_ren := {
  mixed := by kernel_rfl
  f6 := ⟨Tryz.f65.name, by decide, Tryz.func65.trans (congrArg some (by kernel_rfl))⟩
  f14 := ⟨Tryz.f116.name, by decide, Tryz.func116.trans (congrArg some (by kernel_rfl))⟩
  f15 := Tryz.func117.trans (congrArg some (by kernel_rfl))
  f20 := ⟨Tryz.f170.name, by decide, Tryz.func170.trans (congrArg some (by kernel_rfl))⟩
  f21 := ⟨Tryz.f171.name, by decide, Tryz.func171.trans (congrArg some (by kernel_rfl))⟩
  f22 := ⟨Tryz.f172.name, by decide, Tryz.func172.trans (congrArg some (by kernel_rfl))⟩
  f23 := ⟨Tryz.f173.name, by decide, Tryz.func173.trans (congrArg some (by kernel_rfl))⟩
  f24 := ⟨Tryz.f174.name, by decide, Tryz.func174.trans (congrArg some (by kernel_rfl))⟩
  f25 := ⟨Tryz.f175.name, by decide, Tryz.func175.trans (congrArg some (by kernel_rfl))⟩
  f26 := ⟨Tryz.f176.name, by decide, Tryz.func176.trans (congrArg some (by kernel_rfl))⟩
  f27 := ⟨Tryz.f177.name, by decide, Tryz.func177.trans (congrArg some (by kernel_rfl))⟩
  f28 := Tryz.func178.trans (congrArg some (by kernel_rfl))
  f29 := Tryz.func179.trans (congrArg some (by kernel_rfl))
  f46 := ⟨Tryz.f234.name, by decide, Tryz.func234.trans (congrArg some (by kernel_rfl))⟩
  f47 := Tryz.func235.trans (congrArg some (by kernel_rfl))
  f48 := Tryz.func236.trans (congrArg some (by kernel_rfl))
  f49 := ⟨Tryz.f237.name, by decide, Tryz.func237.trans (congrArg some (by kernel_rfl))⟩
  f50 := ⟨Tryz.f238.name, by decide, Tryz.func238.trans (congrArg some (by kernel_rfl))⟩
  f57 := ⟨Tryz.f272.name, by decide, Tryz.func272.trans (congrArg some (by kernel_rfl))⟩
  t0 := Tryz.underlying0
  a0 := Tryz.isAgg0
  z0 := Tryz.sizeOf0
  v0 := Tryz.zeroValue0
  t3 := Tryz.underlying3
  a3 := Tryz.isAgg3
  z3 := Tryz.sizeOf3
  v3 := Tryz.zeroValue3
  t4 := Tryz.underlying4
  a4 := Tryz.isAgg4
  z4 := Tryz.sizeOf4
  v4 := Tryz.zeroValue4
  t5 := Tryz.underlying5
  a5 := Tryz.isAgg5
  z5 := Tryz.sizeOf5
  v5 := Tryz.zeroValue5
  t9 := Tryz.underlying9
  a9 := Tryz.isAgg9
  z9 := Tryz.sizeOf9
  v9 := Tryz.zeroValue9
  t22 := Tryz.underlying36
  a22 := Tryz.isAgg36
  z22 := Tryz.sizeOf36
  v22 := Tryz.zeroValue36
  t25 := Tryz.underlying116
  a25 := Tryz.isAgg116
  z25 := Tryz.sizeOf116
  v25 := Tryz.zeroValue116
  t39 := Tryz.underlying141
  a39 := Tryz.isAgg141
  z39 := Tryz.sizeOf141
  v39 := Tryz.zeroValue141
  t45 := Tryz.underlying244
  a45 := Tryz.isAgg244
  z45 := Tryz.sizeOf244
  v45 := Tryz.zeroValue244
  t46 := Tryz.underlying245
  a46 := Tryz.isAgg245
  z46 := Tryz.sizeOf245
  v46 := Tryz.zeroValue245
  t50 := Tryz.underlying159
  a50 := Tryz.isAgg159
  z50 := Tryz.sizeOf159
  v50 := Tryz.zeroValue159
  t53 := Tryz.underlying202
  a53 := Tryz.isAgg202
  z53 := Tryz.sizeOf202
  v53 := Tryz.zeroValue202
  t55 := Tryz.underlying205
  a55 := Tryz.isAgg205
  z55 := Tryz.sizeOf205
  v55 := Tryz.zeroValue205
  t66 := Tryz.underlying301
  a66 := Tryz.isAgg301
  z66 := Tryz.sizeOf301
  v66 := Tryz.zeroValue301
  t70 := Tryz.underlying305
  a70 := Tryz.isAgg305
  z70 := Tryz.sizeOf305
  v70 := Tryz.zeroValue305
  t76 := Tryz.underlying336
  a76 := Tryz.isAgg336
  z76 := Tryz.sizeOf336
  v76 := Tryz.zeroValue336
  t77 := Tryz.underlying337
  a77 := Tryz.isAgg337
  z77 := Tryz.sizeOf337
  v77 := Tryz.zeroValue337 }
end Go.Proofs
namespace Go.Proofs.YtjiijgdkdlelhaaGreatDoor
open Go Go.RowKit Go.Shelf Go.Lib Go.Sort

theorem ordS_cmpL (k1 : Int) (z1 : List Int) (k2 : Int) (z2 : List Int) : ordS k1 z1 k2 z2 = cmpL (cx z1 :: k1 :: z1) (cx z2 :: k2 :: z2) := rfl
theorem cmpL_lt : ∀ (a b : List Int), cmpL a b < 0 ↔ a < b
  | [], [] => by simp [cmpL]
  | [], _ :: _ => by simp [cmpL]
  | _ :: _, [] => by simp [cmpL]
  | x :: xs, y :: ys => by
    have ih := cmpL_lt xs ys
    rw [List.cons_lt_cons_iff]
    unfold cmpL cmpI
    by_cases h1 : x < y
    · simp [h1]
    · by_cases h2 : y < x
      · have : ¬ x = y := by omega
        simp [h1, h2, this]
      · have : x = y := by omega
        subst this
        simp [ih]
def spOrd (a b : Sp) : Int := ordS a.nom a.cnt b.nom b.cnt
def spLst (a : Sp) : List Int := cx a.cnt :: a.nom :: a.cnt
theorem spOrd_lt (a b : Sp) : spOrd a b < 0 ↔ spLst a < spLst b := by
  unfold spOrd
  rw [ordS_cmpL]
  exact cmpL_lt _ _

/-- A slice of spellings with a row of its own; the counts apart from it. -/
def SpsOwn (w : World) (v : Value) (L : List Sp) : Prop :=
  (L = [] ∧ ∃ p c, v = .slice p 0 c) ∨ ∃ b c, v = .slice (some ⟨b, 0, none⟩) L.length c ∧ L.length ≤ c ∧ b < w.heap.size ∧ HoldsK Sp.enc 2 w b 0 L.toArray ∧ ∀ s ∈ L, RowIn (fun k => k ≠ b) w s.row s.cnt

section
variable {α : Type} [Inhabited α]
theorem sortWorld_turn (enc : α → List Value) (k : Nat) (w : World) (blk off m : Nat) (dk : Array α) (os : Array Obj) (hb : blk < w.heap.size) : Turn (fun b => b = blk) w (sortWorldK enc k w blk off m dk os) := by
  refine ⟨rfl, rfl, rfl, ?_, fun j hj hn => ?_⟩
  · unfold sortWorldK putRowK putRow
    simp [grow, mapBlock, ahead]
  · unfold sortWorldK
    rw [heap_grow_old _ _ (by simpa [putRowK, ahead] using hj)]
    simp [putRowK, putRow, mapBlock, ahead, Array.getElem?_modify, Ne.symm hn]
end
theorem flatK_val {G : Sp → Prop} [Inhabited {s : Sp // G s}] (d : Array {s : Sp // G s}) : flatK (fun x : {s : Sp // G s} => x.val.enc) 2 d = flatK Sp.enc 2 (d.map (·.val)) := by
  refine ext_get! (by simp) fun t ht => ?_
  rw [size_flatK] at ht
  rw [get_flatK _ _ _ _ ht, get_flatK _ _ _ _ (by simpa using ht)]
  have h2 : t / 2 < d.size := by omega
  rw [getElem!_pos d _ h2, getElem!_pos (d.map _) (t / 2) (by simpa using h2), Array.getElem_map]
end Go.Proofs.YtjiijgdkdlelhaaGreatDoor

/- slices.SortFunc at spellings: the contract. -/
namespace Go.Proofs.YtjiijgdkdlelhaaGreatDoor
open Go Go.RowKit Go.Shelf Go.Lib Go.Sort

theorem isAgg42 (w : World) : (isAgg 42).run Tryz.prog w = .ok true w := by
  simp [isAgg, go_sem]
theorem sizeOf42 (w : World) : (Go.sizeOf 42).run Tryz.prog w = .ok 2 w := by
  obtain ⟨i, hi, h1⟩ : ∃ i, Tryz.prog.info? 42 = some i ∧ i.size = 2 := by
    have : (Tryz.prog.info? 42).map (·.size) = some 2 := by kernel_rfl
    cases h : Tryz.prog.info? 42 with
    | none => rw [h] at this; cases this
    | some i => rw [h] at this; exact ⟨i, rfl, by simpa using this⟩
  simp [Go.sizeOf, typeInfo, hi, h1, go_sem]
theorem RowIn.shape {S : Nat → Prop} {w : World} {u : Value} {zs : List Int} (h : RowIn S w u zs) : ∃ p c, u = .slice p zs.length c := h.at.shape

theorem spSwo (G : Sp → Prop) : SWO (ltOf fun x y : {s : Sp // G s} => spOrd x.val y.val) := by
  have e : ∀ x y : {s : Sp // G s}, (ltOf fun x y : {s : Sp // G s} => spOrd x.val y.val) x y = decide (spLst x.val < spLst y.val) := fun x y => by
    unfold ltOf
    exact decide_eq_decide.2 (spOrd_lt _ _)
  refine ⟨fun x => ?_, fun x y z => ?_, fun x y z => ?_⟩
  · rw [e]; exact decide_eq_false (List.lt_irrefl _)
  · rw [e, e, e]
    simp only [decide_eq_true_eq]
    exact fun h1 h2 => List.lt_trans h1 h2
  · rw [e, e, e]
    simp only [decide_eq_false_iff_not, List.not_lt]
    exact fun h1 h2 => List.le_trans h2 h1

set_option maxHeartbeats 1000000 in
theorem sort_calls {w : World} {v : Value} {L : List Sp} (h : SpsOwn w v L) (hl : ∀ s ∈ L, s.cnt.length < 1000 ∧ bndL 1000000000 s.cnt) (hlen : L.length < 100000) :
    Calls Tryz.prog 65 #[v, .func (.func 63) #[] #[]] w fun e w' => e = .returned (.tuple #[]) ∧ ∃ L', L'.Perm L ∧ L'.Pairwise (fun a b => ¬ spLst b < spLst a) ∧ SpsOwn w' v L' ∧ Turn (fun k => v.ownBlock = some k) w w' := by
  by_cases hL : L = []
  · subst hL
    obtain ⟨p, c, rfl⟩ : ∃ p c, v = .slice p 0 c := by
      rcases h with ⟨_, p, c, e⟩ | ⟨b, c, e, _, _⟩
      · exact ⟨p, c, e⟩
      · exact ⟨_, c, e⟩
    have hc := AnyF.slices_SortFunc_none Tryz.sortK p c (.func (.func 63) #[] #[]) w
    change Calls Tryz.prog 65 _ _ _ at hc
    refine hc.mono ?_
    rintro e w' ⟨rfl, rfl⟩
    exact ⟨rfl, [], List.Perm.refl _, List.Pairwise.nil, .inl ⟨rfl, p, c, rfl⟩, Turn.refl _ _⟩
  · rcases h with ⟨e, _⟩ | ⟨b, c, rfl, hlc, hb, hH, hrows⟩
    · exact absurd e hL
    · obtain ⟨G, hG⟩ : ∃ G : Sp → Prop, G = fun s => RowIn (fun k => k ≠ b) w s.row s.cnt ∧ s.cnt.length < 1000 ∧ bndL 1000000000 s.cnt := ⟨_, rfl⟩
      have hGe : ∀ s, G s → RowIn (fun k => k ≠ b) w s.row s.cnt ∧ s.cnt.length < 1000 ∧ bndL 1000000000 s.cnt := fun s h => by rw [hG] at h; exact h
      have hgood : ∀ s ∈ L, G s := fun s hs => by rw [hG]; exact ⟨hrows s hs, hl s hs⟩
      obtain ⟨s0, hs0⟩ := List.exists_mem_of_ne_nil L hL
      haveI : Inhabited {s : Sp // G s} := ⟨⟨s0, hgood s0 hs0⟩⟩
      obtain ⟨d, hd⟩ : ∃ d : Array {s : Sp // G s}, d.map (·.val) = L.toArray := ⟨(L.pmap Subtype.mk hgood).toArray, by simp [List.map_pmap]⟩
      have hds : d.size = L.length := by
        have := congrArg Array.size hd
        simpa using this
      have eg : ∀ args w, (callFunc 63 args).run Tryz.prog w = .ok (.enter 63 args) w := enters_of Tryz.func63 (by kernel_rfl) rfl
      have hH' : HoldsK (fun x : {s : Sp // G s} => x.val.enc) 2 w b 0 d := by
        unfold HoldsK
        rw [flatK_val, hd]
        exact hH
      have hcmp : CmpLays Tryz.prog 63 #[] (fun x : {s : Sp // G s} => x.val.enc) 2 (fun x y => spOrd x.val y.val) b 0 d.size w := by
        intro m os dk hdk x y
        have hx := hGe _ x.property
        have hy := hGe _ y.property
        have ht := sortWorld_turn (fun x : {s : Sp // G s} => x.val.enc) 2 w b 0 m dk os hb
        generalize sortWorldK (fun x : {s : Sp // G s} => x.val.enc) 2 w b 0 m dk os = W at ht ⊢
        show Calls Tryz.prog 63 (#[Value.agg x.val.enc.toArray, .agg y.val.enc.toArray] ++ #[]) W fun e w' => e = .returned (.int .i64 (spOrd x.val y.val)) ∧ ∃ q os', w' = grow (W.drewN q) os'
        generalize x.val = sx at hx ⊢
        generalize y.val = sy at hy ⊢
        have rx := (hx.1.turn (S' := fun k => k ≠ b) ht (fun k hk _ => ⟨hk, hk⟩))
        have ry := (hy.1.turn (S' := fun k => k ≠ b) ht (fun k hk _ => ⟨hk, hk⟩))
        obtain ⟨px, cx', ex⟩ := rx.shape
        obtain ⟨py, cy', ey⟩ := ry.shape
        have hc := order_calls (k1 := sx.nom) (k2 := sy.nom) (by rw [← ex]; exact rx.at) (by rw [← ey]; exact ry.at) hx.2.1 hy.2.1 hx.2.2 hy.2.2
        rw [← ex, ← ey] at hc
        have ea : (#[Value.agg sx.enc.toArray, .agg sy.enc.toArray] ++ #[] : Array Value) = #[.agg #[.int .i64 sx.nom, sx.row], .agg #[.int .i64 sy.nom, sy.row]] := by simp [Sp.enc]
        rw [ea]
        refine hc.mono ?_
        rintro e w' ⟨rfl, p, rfl⟩
        exact ⟨rfl, p.n, p.os, rfl⟩
      have hcon := AnyQ.slices_SortFunc Tryz.sortK 2 isAgg42 sizeOf42 (fun x : {s : Sp // G s} => x.val.enc) (fun _ => rfl) (fun x v hv => ?_) (fun x y => spOrd x.val y.val) (spSwo G) 63 #[] b 0 c d w eg hcmp hH' hb (by omega)
      · change Calls Tryz.prog 65 _ _ _ at hcon
        rw [hds] at hcon
        refine hcon.mono ?_
        rintro e w' ⟨rfl, d', n, os, hp, hs, rfl⟩
        obtain ⟨hsz, _, hperm⟩ := hp
        have hsz' : d'.size = L.length := by rw [hsz, hds]
        have e1 : d'.extract 0 L.length = d' := by rw [← hsz']; exact Array.extract_size
        rw [e1, ← hds, Array.extract_size] at hperm
        have ht := sortWorld_turn (fun x : {s : Sp // G s} => x.val.enc) 2 w b 0 n d' os hb
        refine ⟨rfl, (d'.map (·.val)).toList, ?_, ?_, .inr ⟨b, c, by simp [hsz'], by simp [hsz']; exact hlc, Nat.lt_of_lt_of_le hb ht.size, ?_, ?_⟩, ht.wider (fun k e => by rw [e]; rfl)⟩
        · have := hperm.map (·.val)
          rw [← Array.toList_map, ← Array.toList_map, hd] at this
          exact this
        · rw [List.pairwise_iff_getElem]
          intro i j hi hj hij
          have hi' : i < d'.size := by simpa using hi
          have hj' : j < d'.size := by simpa using hj
          have := hs i j (Nat.zero_le _) hij (by omega)
          rw [getElem!_pos d' j hj', getElem!_pos d' i hi'] at this
          unfold ltOf at this
          rw [decide_eq_false_iff_not, spOrd_lt] at this
          simpa using this
        · have := holdsK_sortWorldK_c (fun x : {s : Sp // G s} => x.val.enc) 2 w b 0 d d' n os hH' hb (by rw [hsz', hds])
          unfold HoldsK at this ⊢
          rw [flatK_val] at this
          rw [Array.toArray_toList]
          exact this
        · intro s hs2
          have hm : s ∈ L := by
            have := hperm.map (·.val)
            rw [← Array.toList_map, ← Array.toList_map, hd] at this
            exact this.mem_iff.1 hs2
          exact (hrows s hm).turn ht (fun k hk _ => ⟨hk, hk⟩)
      · have hx := hGe _ x.property
        obtain ⟨px, cx', ex⟩ := hx.1.shape
        have hv' : v = .int .i64 x.val.nom ∨ v = x.val.row := by simpa [Sp.enc] using hv
        rcases hv' with rfl | rfl
        · rfl
        · rw [ex]; rfl
end Go.Proofs.YtjiijgdkdlelhaaGreatDoor

/- spelling.all: the walk. -/
namespace Go.Proofs.YtjiijgdkdlelhaaGreatDoor
open Go Go.RowKit Go.Shelf Go.Lib

attribute [local go_sem] Oper.semAt_some

/-- The spellings of the box whose row is rs. -/
def hitB (L1 L2 : List Sym) (rs : List Int) (x : Nat × List Int) : Bool := decide (sumL L1[x.1]!.els (L2.map Sym.els) x.2 = rs)
def keepS (L1 L2 : List Sym) (rs : List Int) (l : List (Nat × List Int)) : List (Int × List Int) := (l.filter (hitB L1 L2 rs)).map fun x => ((x.1 : Int), x.2)
theorem keepS_hit {L1 L2 : List Sym} {rs : List Int} {x : Nat × List Int} (h : sumL L1[x.1]!.els (L2.map Sym.els) x.2 = rs) (l : List (Nat × List Int)) : keepS L1 L2 rs (l ++ [x]) = keepS L1 L2 rs l ++ [((x.1 : Int), x.2)] := by
  unfold keepS
  rw [List.filter_append, List.filter_cons_of_pos (by unfold hitB; exact decide_eq_true h), List.map_append]
  rfl
theorem keepS_miss {L1 L2 : List Sym} {rs : List Int} {x : Nat × List Int} (h : ¬ sumL L1[x.1]!.els (L2.map Sym.els) x.2 = rs) (l : List (Nat × List Int)) : keepS L1 L2 rs (l ++ [x]) = keepS L1 L2 rs l := by
  unfold keepS
  rw [List.filter_append, List.filter_cons_of_neg (by unfold hitB; simpa using h), List.filter_nil, List.append_nil]

/-- What lies in the loop of spelling.all. -/
def AllI (b0 : Nat) (W0 : World) (L1 L2 : List Sym) (rs : List Int) (g : Nat) (pre : List (Nat × List Int)) (W : World) : Prop :=
  ∃ v L, OutI (b0 + 7) (b0 + 2) g W v L ∧ L.map spKey = keepS L1 L2 rs pre ∧ L.length ≤ pre.length ∧ Below (b0 + 2) W0 W ∧ b0 + 7 ≤ W.heap.size
theorem AllI.turn {b0 : Nat} {W0 : World} {L1 L2 : List Sym} {rs : List Int} {g g' : Nat} {pre : List (Nat × List Int)} {X Y : World} {G : Nat → Prop} (h : AllI b0 W0 L1 L2 rs g pre X) (ht : Turn G X Y) (hG : ∀ k, G k → k = g ∨ k = b0 + 6) (he : g' = g ∨ X.heap.size ≤ g') : AllI b0 W0 L1 L2 rs g' pre Y := by
  obtain ⟨v, L, ho, hk, hl, hb, hs⟩ := h
  refine ⟨v, L, ho.turn ht hG ⟨by omega, by omega⟩ (he.imp (fun e => e) (fun e => ⟨e, by omega⟩)), hk, hl, hb.trans (ht.below (by omega) (fun k e => ?_)), Nat.le_trans hs ht.size⟩
  have := ho.hg
  rcases hG k e with rfl | rfl <;> omega

def awS (X : World) : Value → World
  | .agg cs => X.alloc (.cells cs 42)
  | _ => X
theorem awS_below (X : World) (v : Value) : Below X.heap.size X (awS X v) := by
  cases v with
  | agg cs => exact below_alloc X _
  | _ => exact Below.refl _ _

/-- What spelling.all has laid ahead of its loop. -/
structure AllS (w W0 : World) (u1 u2 u3 : Value) (k : Nat) : Prop where
  size : W0.heap.size = w.heap.size + 5
  below : Below w.heap.size w W0
  a1 : W0.cell? ⟨w.heap.size, 0, none⟩ = some u1
  a2 : W0.cell? ⟨w.heap.size, 1, none⟩ = some u2
  a3 : W0.cell? ⟨w.heap.size + 1, 0, none⟩ = some u3
  out : Boxed W0 (w.heap.size + 2) 36 (.slice none 0 0)
  c1 : W0.cell? ⟨w.heap.size + 1 + 1 + 1, 0, none⟩ = some u1
  c2 : W0.cell? ⟨w.heap.size + 1 + 1 + 1, 1, none⟩ = some u2
  c3 : W0.cell? ⟨w.heap.size + 1 + 1 + 1 + 1, 0, none⟩ = some (.int .i64 k)
theorem allStart {w W0 : World} {u1 u2 u3 : Value} {k : Nat} (h : (((((w.alloc (Obj.cells #[u1, u2] 30)).alloc (Obj.cells #[u3] 32)).alloc (Obj.cells #[Value.slice none 0 0] 36)).alloc (Obj.cells #[u1, u2] 30)).alloc (Obj.cells #[Value.int IntKind.i64 k] 3)) = W0) : AllS w W0 u1 u2 u3 k := by
  obtain ⟨wa, ha⟩ : ∃ wa, w.alloc (Obj.cells #[u1, u2] 30) = wa := ⟨_, rfl⟩
  obtain ⟨wb, hb⟩ : ∃ wb, wa.alloc (Obj.cells #[u3] 32) = wb := ⟨_, rfl⟩
  obtain ⟨wc, hc⟩ : ∃ wc, wb.alloc (Obj.cells #[Value.slice none 0 0] 36) = wc := ⟨_, rfl⟩
  obtain ⟨wd, hd⟩ : ∃ wd, wc.alloc (Obj.cells #[u1, u2] 30) = wd := ⟨_, rfl⟩
  rw [ha, hb, hc, hd] at h
  have sa : wa.heap.size = w.heap.size + 1 := by rw [← ha]; simp
  have sb : wb.heap.size = w.heap.size + 2 := by rw [← hb]; simp [sa]
  have sc : wc.heap.size = w.heap.size + 3 := by rw [← hc]; simp [sb]
  have sd : wd.heap.size = w.heap.size + 4 := by rw [← hd]; simp [sc]
  have se : W0.heap.size = w.heap.size + 5 := by rw [← h]; simp [sd]
  have ba := ha ▸ below_alloc w (.cells #[u1, u2] 30)
  have bb := hb ▸ below_alloc wa (.cells #[u3] 32)
  have bc := hc ▸ below_alloc wb (.cells #[Value.slice none 0 0] 36)
  have bd := hd ▸ below_alloc wc (.cells #[u1, u2] 30)
  have be := h ▸ below_alloc wd (.cells #[Value.int IntKind.i64 k] 3)
  have na := ha ▸ cell_two w u1 u2 30
  have nb : wb.cell? ⟨wa.heap.size, 0, none⟩ = some u3 := hb ▸ cell_of_row _ _ 0 _ 32 (0, 0) (heap_alloc_new wa _)
  have nc : Boxed wc wb.heap.size 36 (.slice none 0 0) := hc ▸ Boxed.new wb 36 _
  have nd := hd ▸ cell_two wc u1 u2 30
  have ne : W0.cell? ⟨wd.heap.size, 0, none⟩ = some (.int .i64 k) := h ▸ cell_of_row _ _ 0 _ 3 (0, 0) (heap_alloc_new wd _)
  rw [sa] at nb
  rw [sb] at nc
  rw [sc] at nd
  rw [sd] at ne
  have bbe := below_then bb (below_then bc (below_then bd be))
  have bce := below_then bc (below_then bd be)
  have bde := below_then bd be
  refine ⟨se, below_then ba bbe, (bbe.cell (p := ⟨w.heap.size, 0, none⟩) (by show w.heap.size < _; omega)).trans na.1, (bbe.cell (p := ⟨w.heap.size, 1, none⟩) (by show w.heap.size < _; omega)).trans na.2,
    (bce.cell (p := ⟨w.heap.size + 1, 0, none⟩) (by show w.heap.size + 1 < _; omega)).trans nb, (bde.block _ (by omega)).trans nc,
    (be.cell (p := ⟨w.heap.size + 1 + 1 + 1, 0, none⟩) (by show w.heap.size + 1 + 1 + 1 < _; omega)).trans nd.1, (be.cell (p := ⟨w.heap.size + 1 + 1 + 1, 1, none⟩) (by show w.heap.size + 1 + 1 + 1 < _; omega)).trans nd.2, ne⟩
theorem AllI.start {w W0 W : World} {u1 u2 u3 : Value} {k : Nat} {L1 L2 : List Sym} {rs : List Int} (h : AllS w W0 u1 u2 u3 k) (hb : Below W0.heap.size W0 W) (hs : W.heap.size = W0.heap.size + 2) : AllI w.heap.size W0 L1 L2 rs (W0.heap.size + 2) [] W := by
  have := h.size
  refine ⟨.slice none 0 0, [], ⟨(hb.block _ (by omega)).trans h.out, by omega, by omega, World.ownsRow_nil _ _ _ _, (fun e => by cases e), (fun s hs => by cases hs)⟩, rfl, Nat.le_refl _, hb.mono (by omega), by omega⟩

/-- What holds where a round's body begins. -/
structure BodyS (w W0 W : World) (L1 L2 : List Sym) (rs : List Int) (u1 u2 u3 : Value) (g x8 : Nat) (pre : List (Nat × List Int)) (x : Nat × List Int) (px : Option Addr) (cx' : Nat) (v0 : Value) (L : List Sp) : Prop where
  out : OutI (w.heap.size + 7) (w.heap.size + 2) g W v0 L
  key : L.map spKey = keepS L1 L2 rs pre
  len : L.length ≤ pre.length
  b2 : Below (w.heap.size + 2) W0 W
  size : w.heap.size + 7 ≤ W.heap.size
  below : Below w.heap.size w W
  a1 : W.cell? ⟨w.heap.size, 0, none⟩ = some u1
  a2 : W.cell? ⟨w.heap.size, 1, none⟩ = some u2
  a3 : W.cell? ⟨w.heap.size + 1, 0, none⟩ = some u3
  c80 : W.cell? ⟨x8, 0, none⟩ = some (.int .i64 x.1)
  c81 : W.cell? ⟨x8, 1, none⟩ = some (.slice px x.2.length cx')
  l8 : x8 < W.heap.size
  row : RowIn (fun b => w.heap.size + 7 ≤ b ∧ b ≠ g ∧ some b ≠ v0.ownBlock) W (.slice px x.2.length cx') x.2
  gW : g < W.heap.size
theorem bodyStart {w W0 X0 X W : World} {u1 u2 u3 v : Value} {k g : Nat} {L1 L2 : List Sym} {rs : List Int} {pre : List (Nat × List Int)} {x : Nat × List Int} (HF : AllS w W0 u1 u2 u3 k) (hi : AllI w.heap.size W0 L1 L2 rs g pre X0) (hg : W0.heap.size + 2 ≤ g) (hgX : g < X0.heap.size)
    (hb : Below X0.heap.size X0 X) (hl : LaySp X0.heap.size X v x) (ht : Turn (fun k => k = W0.heap.size + 1) (awS X v) W) : ∃ v0 L px cx', v = .agg #[.int .i64 x.1, .slice px x.2.length cx'] ∧ BodyS w W0 W L1 L2 rs u1 u2 u3 g X.heap.size pre x px cx' v0 L := by
  obtain ⟨px, cx', rfl, hrow⟩ := hl
  have hs5 := HF.size
  have hba := awS_below X (.agg #[.int .i64 x.1, .slice px x.2.length cx'])
  have hX := hb.size
  have hA : (awS X (.agg #[.int .i64 x.1, .slice px x.2.length cx'])).heap.size = X.heap.size + 1 := World.size_alloc _ _
  have hn := cell_two X (.int .i64 x.1) (.slice px x.2.length cx') 42
  obtain ⟨A, eA⟩ : ∃ A, awS X (.agg #[.int .i64 x.1, .slice px x.2.length cx']) = A := ⟨_, rfl⟩
  rw [show X.alloc (.cells #[.int .i64 x.1, .slice px x.2.length cx'] 42) = A from eA] at hn
  rw [eA] at hba hA ht
  have t0 : Turn (fun k => k = W0.heap.size + 1) X0 W := ((Turn.of_below hb).trans (Turn.of_below hba)).trans ht
  have hi' := hi.turn t0 (g' := g) (fun j hj => .inr (by omega)) (.inl rfl)
  obtain ⟨v0, L, ho, hk, hlen, hbI, hs⟩ := hi
  obtain ⟨_, _, _, _, _, hbI', hs'⟩ := hi'
  have hvb : ∀ b, v0.ownBlock = some b → b < X0.heap.size := fun b hb => (ho.own.lt b hb).2
  refine ⟨v0, L, px, cx', rfl, ⟨ho.turn t0 (fun j hj => .inr hj) ⟨by omega, by omega⟩ (.inl rfl), hk, hlen, hbI', hs', HF.below.trans (hbI'.mono (by omega)), (hbI'.cell (p := ⟨w.heap.size, 0, none⟩) (by show w.heap.size < _; omega)).trans HF.a1, (hbI'.cell (p := ⟨w.heap.size, 1, none⟩) (by show w.heap.size < _; omega)).trans HF.a2,
    (hbI'.cell (p := ⟨w.heap.size + 1, 0, none⟩) (by show w.heap.size + 1 < _; omega)).trans HF.a3, (ht.cell (p := ⟨X.heap.size, 0, none⟩) (by show X.heap.size < _; omega) (by show ¬ X.heap.size = _; omega)).trans hn.1, (ht.cell (p := ⟨X.heap.size, 1, none⟩) (by show X.heap.size < _; omega) (by show ¬ X.heap.size = _; omega)).trans hn.2, by have := ht.size; omega, ?_, by have := t0.size; omega⟩⟩
  refine hrow.turn (((Turn.of_below hba).trans ht)) (fun b hb2 _ => ⟨by omega, by omega, by omega, fun e => ?_⟩)
  have := hvb b e.symm
  omega
theorem sum_len {L1 L2 : List Sym} {d i : Nat} {cs : List Int} (hd : ∀ x ∈ L1 ++ L2, x.els.length = d ∧ bndL 1000 x.els) (hi : i < L1.length) (hd1 : d < 1000) : (sumL L1[i]!.els (L2.map Sym.els) cs).length < 1000 := by
  have h1 := (hd L1[i]! (List.mem_append_left _ (by rw [getElem!_pos L1 i hi]; exact List.getElem_mem hi))).1
  rw [sumL_length _ _ _ (fun a ha => ?_), h1]
  · exact hd1
  · obtain ⟨y, hy, rfl⟩ := List.mem_map.1 ha
    rw [h1]
    exact (hd y (List.mem_append_right _ hy)).1
theorem Tryz.info42 : (Tryz.prog.info? 42).map (fun i => (i.zero, i.size, i.bytes)) = some (some (.agg #[.int .i64 0, .slice none 0 0]), 2, 32) := by kernel_rfl

theorem BodyS.miss {w W0 W w2 : World} {u1 u2 u3 : Value} {k g x8 : Nat} {L1 L2 : List Sym} {rs : List Int} {pre : List (Nat × List Int)} {x : Nat × List Int} {px : Option Addr} {cx' : Nat} {v0 : Value} {L : List Sp} (h : BodyS w W0 W L1 L2 rs u1 u2 u3 g x8 pre x px cx' v0 L) (HF : AllS w W0 u1 u2 u3 k)
    (hb : Below W.heap.size W w2) (hne : ¬ sumL L1[x.1]!.els (L2.map Sym.els) x.2 = rs) :
    W.heap.size ≤ w2.heap.size ∧ (∀ k, (k = g ∨ k = W0.heap.size ∨ k = W0.heap.size + 1 ∨ k = w.heap.size + 1 + 1 + 1 ∨ k = w.heap.size + 1 + 1 + 1 + 1) → w2.heap[k]? = W.heap[k]?) ∧ AllI w.heap.size W0 L1 L2 rs g (pre ++ [x]) w2 := by
  have h5 := HF.size
  have hs := h.size
  have hg := h.gW
  refine ⟨hb.size, fun j hj => hb.block j (by rcases hj with rfl | rfl | rfl | rfl | rfl <;> omega), v0, L, h.out.turn (G := fun _ => False) (Turn.of_below hb) (fun _ e => e.elim) (c := w.heap.size + 6) ⟨by omega, by omega⟩ (.inl rfl), ?_, ?_, h.b2.trans (hb.mono (by omega)), Nat.le_trans hs hb.size⟩
  · rw [keepS_miss hne]; exact h.key
  · rw [List.length_append]; have := h.len; omega
theorem BodyS.hit {w W0 W w2 w1 : World} {u1 u2 u3 v' : Value} {k g x8 : Nat} {L1 L2 : List Sym} {rs : List Int} {pre : List (Nat × List Int)} {x : Nat × List Int} {px : Option Addr} {cx' : Nat} {v0 : Value} {L : List Sp} (h : BodyS w W0 W L1 L2 rs u1 u2 u3 g x8 pre x px cx' v0 L) (HF : AllS w W0 u1 u2 u3 k)
    (hb : Below W.heap.size W w2) (he : sumL L1[x.1]!.els (L2.map Sym.els) x.2 = rs) {tmp : Obj}
    (hown : w1.ownsRow (w.heap.size + 7) 42 2 v' (L.length + 1) (spCells L ++ [.int .i64 x.1, .slice px x.2.length cx'])) (hgrow : (w2.alloc tmp).grownBy w1 v0.ownBlock) (hw : v'.ownBlock = v0.ownBlock ∨ v'.ownBlock = some (w2.alloc tmp).heap.size) :
    W.heap.size ≤ (w1.setCell ⟨w.heap.size + 1 + 1, 0, none⟩ v').heap.size ∧ (∀ k, (k = g ∨ k = W0.heap.size ∨ k = W0.heap.size + 1 ∨ k = w.heap.size + 1 + 1 + 1 ∨ k = w.heap.size + 1 + 1 + 1 + 1) → (w1.setCell ⟨w.heap.size + 1 + 1, 0, none⟩ v').heap[k]? = W.heap[k]?) ∧ AllI w.heap.size W0 L1 L2 rs g (pre ++ [x]) (w1.setCell ⟨w.heap.size + 1 + 1, 0, none⟩ v') := by
  show W.heap.size ≤ (w1.setCell ⟨w.heap.size + 2, 0, none⟩ v').heap.size ∧ (∀ k, (k = g ∨ k = W0.heap.size ∨ k = W0.heap.size + 1 ∨ k = w.heap.size + 1 + 1 + 1 ∨ k = w.heap.size + 1 + 1 + 1 + 1) → (w1.setCell ⟨w.heap.size + 2, 0, none⟩ v').heap[k]? = W.heap[k]?) ∧ AllI w.heap.size W0 L1 L2 rs g (pre ++ [x]) (w1.setCell ⟨w.heap.size + 2, 0, none⟩ v')
  have h5 := HF.size
  have hs := h.size
  have hg := h.gW
  have hbs := hb.size
  have ho2 : OutI (w.heap.size + 7) (w.heap.size + 2) g w2 v0 L := h.out.turn (G := fun _ => False) (Turn.of_below hb) (fun _ e => e.elim) (c := w.heap.size + 6) ⟨by omega, by omega⟩ (.inl rfl)
  have hrow := h.row.turn (G := fun _ => False) (Turn.of_below hb) (S' := fun b => w.heap.size + 7 ≤ b ∧ b ≠ g ∧ some b ≠ v0.ownBlock) (fun b hb _ => ⟨fun e => e, hb⟩)
  obtain ⟨o3, _, t3⟩ := ho2.hit (x := ⟨x.1, .slice px x.2.length cx', x.2⟩) (by omega) (by omega) hrow hown hgrow hw
  have hvb : ∀ b, v0.ownBlock = some b → w.heap.size + 7 ≤ b := fun b hb => (ho2.own.lt b hb).1
  refine ⟨by have := t3.size; omega, fun j hj => ?_, v', L ++ [⟨x.1, .slice px x.2.length cx', x.2⟩], o3, ?_, ?_, (h.b2.trans (hb.mono (by omega))).trans (t3.below (by omega) (fun j hj => ?_)), by have := t3.size; omega⟩
  · have hjg : j < W.heap.size ∧ j ≠ w.heap.size + 2 ∧ some j ≠ v0.ownBlock := by
      have hgB := ho2.hg
      rcases hj with rfl | hj
      · exact ⟨hg, by omega, fun e => ho2.off e.symm⟩
      · refine ⟨by omega, by omega, fun e => ?_⟩
        have := hvb j e.symm
        omega
    refine (t3.same j (by omega) (fun e => ?_)).trans (hb.block j hjg.1)
    rcases e with e | e
    · exact hjg.2.2 e
    · exact hjg.2.1 e
  · rw [keepS_hit he, List.map_append, h.key]; rfl
  · rw [List.length_append, List.length_append, List.length_singleton, List.length_singleton]; have := h.len; omega
  · rcases hj with e | rfl
    · have := hvb j e.symm; omega
    · omega

theorem BodyS.miss0 {w W0 W w2 : World} {u1 u2 u3 : Value} {g x8 : Nat} {L1 L2 : List Sym} {rs : List Int} {pre : List (Nat × List Int)} {x : Nat × List Int} {px : Option Addr} {cx' : Nat} {v0 : Value} {L : List Sp} (h : BodyS w W0 W L1 L2 rs u1 u2 u3 g x8 pre x px cx' v0 L) (hb : Below W.heap.size W w2) : OutI (w.heap.size + 7) (w.heap.size + 2) g w2 v0 L :=
  h.out.turn (G := fun _ => False) (Turn.of_below hb) (fun _ e => e.elim) (c := w.heap.size + 6) ⟨by omega, by omega⟩ (.inl rfl)
theorem one_sp {k : Int} {p : Option Addr} {n c : Nat} : ∀ u ∈ [Value.int .i64 k, .slice p n c], u.oneCell' = true := by
  intro u hu
  simp at hu
  rcases hu with rfl | rfl <;> rfl
theorem OutI.sps {B bo g : Nat} {W : World} {v : Value} {L : List Sp} (h : OutI B bo g W v L) : SpsOwn W v L := by
  rcases h.own.2 with ⟨rfl, h0⟩ | ⟨g', cap, cur, rfl, hb, hg, hn, hm, hs, ht⟩
  · exact .inl ⟨List.eq_nil_of_length_eq_zero h0, none, 0, rfl⟩
  · refine .inr ⟨g', cap, rfl, hn, (Array.getElem?_eq_some_iff.1 hg).1, fun t hlt => ?_, fun s hs2 => (h.rows s hs2).wider (fun b hb e => hb.2.2 (by rw [e]; rfl))⟩
    rw [Sort.size_flatK] at hlt
    rw [Sort.get_flatK _ _ _ _ hlt]
    have hlt2 : t < L.length * 2 := by simpa using hlt
    have h2 : t / 2 < L.length := by omega
    have hc := spCells_at L (t / 2) h2
    have e0 : L.toArray[t / 2]! = L[t / 2]! := by
      rw [getElem!_pos L _ h2, getElem!_pos L.toArray (t / 2) (by simpa using h2)]
      simp
    rw [e0]
    constructor
    · have hcell : (spCells L)[t]? = some (L[t / 2]!.enc)[t % 2]! := by
        have h3 := Nat.div_add_mod t 2
        have h4 : t % 2 = 0 ∨ t % 2 = 1 := by omega
        rcases h4 with h4 | h4
        · rw [h4]
          rw [show t = t / 2 * 2 by omega]
          rw [show t / 2 * 2 / 2 = t / 2 by omega]
          exact hc.1
        · rw [h4]
          have e5 : t = t / 2 * 2 + 1 := by omega
          have hc2 := hc.2
          rw [← e5] at hc2
          exact hc2
      have := h.own.cells (g := g') rfl t _ hcell
      rw [Addr.add_lit] at this
      simpa using this
    · have := World.ownsRow.frozenAt h.own t
      simpa using this
theorem keep_bnd {L : List Sp} {L1 L2 : List Sym} {rs : List Int} {k m n : Nat} (h : L.map spKey = keepS L1 L2 rs (boxTo k m n 0)) (hm : m < 1000) (hk : k < 1000) (s : Sp) (hs : s ∈ L) : s.cnt.length < 1000 ∧ bndL 1000000000 s.cnt := by
  have h1 : spKey s ∈ keepS L1 L2 rs (boxTo k m n 0) := by rw [← h]; exact List.mem_map.2 ⟨s, hs, rfl⟩
  unfold keepS at h1
  obtain ⟨x, hx, e⟩ := List.mem_map.1 h1
  have hx2 := (boxTo_mem k m n x).1 ((List.mem_filter.1 hx).1)
  have e2 : x.2 = s.cnt := congrArg Prod.snd e
  rw [← e2]
  refine ⟨by rw [hx2.2.1]; exact hm, fun j hj => ?_⟩
  have := hx2.2.2 x.2[j]! (by rw [getElem!_pos x.2 j hj]; exact List.getElem_mem hj)
  omega

theorem RowIn.put {S : Nat → Prop} {w : World} {u : Value} {zs : List Int} {l : Nat} {o o' : Obj} (h : RowIn S w u zs) (hl : w.heap[l]? = some o) (ho : o.isCells = false) : RowIn S (w.putObj l o') u zs := by
  rcases h with h | ⟨b, off, c, h1, hs, h2, h3⟩
  · exact .inl h
  · by_cases hz : zs = []
    · subst hz
      exact .inl ⟨rfl, _, _, h1⟩
    · have hp := List.length_pos_iff.2 hz
      obtain ⟨o2, ho2, hc⟩ := cells_of_cell (h3 0 hp)
      have hne : b ≠ l := fun e => by
        subst e
        rw [show w.heap[b]? = some o2 from ho2] at hl
        cases hl
        rw [hc] at ho
        cases ho
      refine .inr ⟨b, off, c, h1, hs, by simpa using h2, fun j hj => (cell_same (World.putObj_heap_other hne) _).trans (h3 j hj)⟩
theorem SpsOwn.put {w : World} {v : Value} {L : List Sp} {l : Nat} {o o' : Obj} (h : SpsOwn w v L) (hl : w.heap[l]? = some o) (ho : o.isCells = false) : SpsOwn (w.putObj l o') v L := by
  rcases h with h | ⟨b, c, h1, hlc, h2, h3, h4⟩
  · exact .inl h
  · by_cases hz : L = []
    · subst hz
      exact .inl ⟨rfl, _, _, h1⟩
    · have hp := List.length_pos_iff.2 hz
      obtain ⟨o2, ho2, hc⟩ := cells_of_cell ((h3.cell (i := 0) (c := 0) (by simpa using hp) (by omega)).1)
      have hne : b ≠ l := fun e => by
        subst e
        rw [show w.heap[b]? = some o2 from ho2] at hl
        cases hl
        rw [hc] at ho
        cases ho
      have hsame : (w.putObj l o').heap[b]? = w.heap[b]? := World.putObj_heap_other hne
      refine .inr ⟨b, c, h1, hlc, by simpa using h2, fun j hj => ?_, fun s hs => (h4 s hs).put hl ho⟩
      rw [cell_same hsame, World.frozen?_of_block (a := ⟨b, 0 + j, none⟩) hsame]
      exact h3 j hj

set_option maxRecDepth 100000 in
set_option maxHeartbeats 4000000 in
theorem all_calls {w : World} {p1 p2 pr : Option Addr} {n1 q1 n2 q2 nr qr k d : Nat} {L1 L2 : List Sym} {rs : List Int} (h1 : SymsAt w (.slice p1 n1 q1) L1) (h2 : SymsAt w (.slice p2 n2 q2) L2) (hr : RowAt w (.slice pr nr qr) rs)
    (hn1 : L1.length < 1000) (hn2 : L2.length < 1000) (hd : ∀ x ∈ L1 ++ L2, x.els.length = d ∧ bndL 1000 x.els) (hd0 : 0 < d) (hd1 : d < 1000) (hrs : rs.length < 1000) (hk : k < 1000) (hbox : (boxTo k L2.length L1.length 0).length < 100000) :
    Calls Tryz.prog 56 #[.agg #[.slice p1 n1 q1, .slice p2 n2 q2], .slice pr nr qr, .int .i64 k] w fun e w' => ∃ v L, e = .returned v ∧ SpsOwn w' v L ∧ (L.map spKey).Perm (keepS L1 L2 rs (boxTo k L2.length L1.length 0)) ∧ L.Pairwise (fun a b => ¬ spLst b < spLst a) ∧ Below w.heap.size w w' ∧ (∀ b, v.ownBlock = some b → w.heap.size ≤ b) := by
  have e1 := h1.len
  have e2 := h2.len
  rw [← e1, ← e2] at hbox ⊢
  refine (callsIn_wide (n := 10)).1 ?_
  have hF : Fence.wide.fn 56 := trivial
  have h112 : Fence.wide.fn 112 := trivial
  have h60 : Fence.wide.fn 60 := trivial
  have h78 : Fence.wide.fn 78 := trivial
  have h65 : Fence.wide.fn 65 := trivial
  have h169 : Fence.wide.fn 169 := trivial
  have H1 := aside h1
  have H2 := aside h2
  have HR := aside hr
  have HN1 := aside hn1
  have HN2 := aside hn2
  have HD := aside hd
  have HD0 := aside hd0
  have HD1 := aside hd1
  have HRS := aside hrs
  have HK := aside hk
  have HBX := aside hbox
  have E1 := aside e1
  have E2 := aside e2
  clear h1 h2 hr hn1 hn2 hd hd0 hd1 hrs hk hbox e1 e2
  refine callsIn_of_wp_marks Tryz.func56 rfl hF ?_ rfl
  simp only [Tryz.ntmps56, List.size_toArray, List.length_cons, List.length_nil, Nat.reduceAdd, Nat.reduceSub, Array.replicate_succ, Array.replicate_zero, List.push_toArray, List.append_toArray, List.nil_append, List.cons_append]
  gi_wp2_with (gi_at_call 112; refine (callsIn_wide.2 (box_calls _ _ _ _)).mono ?_; rintro e w' ⟨rfl, rfl⟩)
  obtain ⟨W0, hW0⟩ : ∃ W0, (((((w.alloc (Obj.cells #[Value.slice p1 n1 q1, Value.slice p2 n2 q2] 30)).alloc (Obj.cells #[Value.slice pr nr qr] 32)).alloc (Obj.cells #[Value.slice none 0 0] 36)).alloc (Obj.cells #[Value.slice p1 n1 q1, Value.slice p2 n2 q2] 30)).alloc (Obj.cells #[Value.int IntKind.i64 ↑k] 3)) = W0 := ⟨_, rfl⟩
  rw [hW0]
  have HF := aside (allStart hW0)
  clear hW0
  refine wpIn_rangeFunc_turn (gf := 169) (lb := #[.pointer (some ⟨w.heap.size + 1 + 1 + 1, 0, none⟩), .pointer (some ⟨w.heap.size + 1 + 1 + 1 + 1, 0, none⟩)]) rfl (enters_of Tryz.func169 (by kernel_rfl) rfl) (xs := boxTo k n2 n1 0)
    (box1_in 9 (by omega) (by rw [HF.out.size]; omega) (by rw [HF.out.size]; omega) HF.out.c1 HF.out.c2 HF.out.c3 (by rw [E1.out]; exact HN1.out) (by rw [E2.out]; exact HN2.out) HK.out) (fun j hj => by rw [HF.out.size]; rcases hj with rfl | rfl <;> omega)
    (AllI w.heap.size W0 L1 L2 rs)
    (fun g g' pre X Y hi hg ht he => hi.turn ht (fun j hj => by rw [HF.out.size] at hj; exact hj) he)
    (fun W hb hs => ?_)
    (fun X v => { tmps := #[.agg #[.slice p1 n1 q1, .slice p2 n2 q2], .slice pr nr qr, .int .i64 k, .pointer (some ⟨w.heap.size, 0, none⟩), .pointer (some ⟨w.heap.size + 1, 0, none⟩), undef, .slice none 0 0, .pointer (some ⟨w.heap.size + 1 + 1, 0, none⟩), .pointer (some ⟨X.heap.size, 0, none⟩),
      .agg #[.slice p1 n1 q1, .slice p2 n2 q2], .int .i64 k, .func (.func 169) #[] #[.pointer (some ⟨w.heap.size + 1 + 1 + 1, 0, none⟩), .pointer (some ⟨w.heap.size + 1 + 1 + 1 + 1, 0, none⟩)], v, undef, undef, undef, undef, undef, undef, undef, undef, undef, undef, undef, undef], defers := [] })
    awS awS_below ?assign ?body ?done
  · exact AllI.start HF.out hb hs
  case assign =>
    intro l B x v X K hl hK
    obtain ⟨p, c, rfl, hrow⟩ := hl
    gi_wp2
    exact hK
  case body =>
    intro l g pre x v X0 X W hi hg hgX hb hl ht hpre
    obtain ⟨RQ, hRQ⟩ : ∃ RQ : World → Prop, RQ = fun W' => W.heap.size ≤ W'.heap.size ∧ (∀ k, (k = g ∨ k = W0.heap.size ∨ k = W0.heap.size + 1 ∨ k = w.heap.size + 1 + 1 + 1 ∨ k = w.heap.size + 1 + 1 + 1 + 1) → W'.heap[k]? = W.heap[k]?) ∧ AllI w.heap.size W0 L1 L2 rs g (pre ++ [x]) W' := ⟨_, rfl⟩
    refine wpIn_mono (Q := fun e _ W' => e = .normal ∧ RQ W') ?_ (by rintro e a W' ⟨h1, h2⟩; rw [hRQ] at h2; exact ⟨h1, h2⟩)
    have HRQ := aside fun (W' : World) (h : W.heap.size ≤ W'.heap.size ∧ (∀ k, (k = g ∨ k = W0.heap.size ∨ k = W0.heap.size + 1 ∨ k = w.heap.size + 1 + 1 + 1 ∨ k = w.heap.size + 1 + 1 + 1 + 1) → W'.heap[k]? = W.heap[k]?) ∧ AllI w.heap.size W0 L1 L2 rs g (pre ++ [x]) W') => show RQ W' by rw [hRQ]; exact h
    clear hRQ
    obtain ⟨v0, L, hB⟩ := bodyStart HF.out hi hg hgX hb hl ht
    obtain ⟨px, cx', rfl, hB⟩ := hB
    have HBS := aside hB
    have hmem := (boxTo_mem k n2 n1 x).1 (hpre.mem (by simp))
    have HM := aside hmem
    have HSUM := aside fun (W' : World) (h : Below W.heap.size W W') => sum_calls (m := x.2.length) (H1.out.mono (below_then HBS.out.below h)) (H2.out.mono (below_then HBS.out.below h)) (HBS.out.row.at.mono h) (by rw [← E1.out]; exact HM.out.1) HN1.out (by rw [HM.out.2.1, E2.out]) HD.out HD0.out HD1.out
      (fun j hj => by have h1 := HM.out.2.2 x.2[j]! (by rw [getElem!_pos x.2 j hj]; exact List.getElem_mem hj); have h2 := HK.out; omega) (by rw [HM.out.2.1, E2.out]; exact HN2.out)
    obtain ⟨S, hS⟩ : ∃ S, sumL L1[x.1]!.els (L2.map Sym.els) x.2 = S := ⟨_, rfl⟩
    rw [hS] at HSUM
    have HS := aside hS
    clear hS
    have HRW := aside fun (W' : World) (h : Below W.heap.size W W') => HR.out.mono (below_then HBS.out.below h)
    have HLEN : Aside (S.length < 1000) := by
      rw [← HS.out]
      exact sum_len HD.out (by rw [← E1.out]; exact HM.out.1) HD1.out
    have HPRE := aside hpre
    have A3 := aside fun (W' : World) (h : Below W.heap.size W W') => (h.cell (p := ⟨w.heap.size + 1, 0, none⟩) (by have := HBS.out.size; show w.heap.size + 1 < _; omega)).trans HBS.out.a3
    have C80 := aside fun (W' : World) (h : Below W.heap.size W W') => (h.cell (p := ⟨X.heap.size, 0, none⟩) HBS.out.l8).trans HBS.out.c80
    have C81 := aside fun (W' : World) (h : Below W.heap.size W W') => (h.cell (p := ⟨X.heap.size, 1, none⟩) HBS.out.l8).trans HBS.out.c81
    clear hB hmem hi hg hgX hb hl ht hpre
    have a1 := HBS.out.a1
    have a2 := HBS.out.a2
    have a3 := HBS.out.a3
    have c80 := HBS.out.c80
    have c81 := HBS.out.c81
    have hmix : Tryz.prog.follows .mixedOrders = true := by kernel_rfl
    by_cases hit : S = rs
    · have HIT := aside hit
      clear hit
      gi_wp2
      gi_region_with_o (first
        | (gi_at_call 60; refine (CallsIn.inRound l (callsIn_wide.2 (HSUM.out _ (below_drewN (Below.refl _ _) 1)))).mono ?_; rintro e w1 ⟨vs, rfl, hrow, hb1⟩; obtain ⟨ps, cs, rfl⟩ := hrow.shape; have HRO := aside hrow; have HB1 := aside (below_then (below_drewN (Below.refl _ _) 1) hb1); clear hrow hb1; have a3' := A3.out w1 HB1.out)
        | (gi_at_call 78; refine (CallsIn.inRound l (callsIn_wide.2 (equal78_calls HRO.out (HRW.out _ HB1.out) HLEN.out HRS.out))).mono ?_; rintro e w2 ⟨rfl, hb2⟩; have HB2 := aside (below_then HB1.out hb2); clear hb2; have c80' := C80.out w2 HB2.out; have c81' := C81.out w2 HB2.out))
      all_goals
        rw [decide_eq_true HIT.out]
        have o2 := (HBS.out.miss0 HB2.out).box
        have oc := o2.cell
        have of2 := o2.frozen
        have HO2 := aside (HBS.out.miss0 HB2.out)
        clear o2
        obtain ⟨i0, hi', hz0, hz1, hz2⟩ := info_parts Tryz.info42
        have HI := aside (And.intro hi' (And.intro hz0 (And.intro hz1 hz2)))
        clear hi' hz0 hz1 hz2
        have HLL : Aside (L.length < 100000) := by
          have h1 := HBS.out.len
          have h2 := HPRE.out.length_le
          rw [List.length_append] at h2
          have h3 := HBX.out
          show L.length < _
          omega
        have HSZ : Aside (w.heap.size + 7 ≤ w2.heap.size) := Nat.le_trans HBS.out.size HB2.out.size
        gi_wp2_with (gi_at_builtin; refine wpListIn_append_at _ rfl _ _ 36 rfl (w.heap.size + 7) 42 i0 _ 2 32 Tryz.underlying36 HI.out.1 HI.out.2.1 HI.out.2.2.1 HI.out.2.2.2 rfl (by decide) v0 L.length _ rfl (owns_below HO2.out.own (below_alloc _ _)) ⟨w2.heap.size, 0, none⟩ 1 1 [.int .i64 x.1, .slice px x.2.length cx'] rfl rfl (cells_two_new w2 _ _ _) one_sp (by have := HLL.out; unfold maxLen; omega) (by have := HLL.out; omega) (by have := HSZ.out; rw [World.size_alloc]; omega) ?_; intro v' w3 hown' hgrow hblk; obtain ⟨gb, cap, hv', hgB, _⟩ := owns_shape hown' (Nat.succ_pos _); subst hv'; have hb3 := (HO2.out.box.alloc (.cells #[.int .i64 x.1, .slice px x.2.length cx'] 42)).kept hgrow (HO2.out.box.not_row (by decide) HO2.out.own); have hbc3 := hb3.cell; have hbf3 := hb3.frozen; have HH := aside (HBS.out.hit HF.out HB2.out (HS.out.trans HIT.out) hown' hgrow hblk); clear hown' hgrow hblk hb3)
        first | exact HRQ.out _ HH.out | exact ⟨rfl, HRQ.out _ HH.out⟩
    · have HIT := aside hit
      clear hit
      gi_wp2
      gi_region_with_o (first
        | (gi_at_call 60; refine (CallsIn.inRound l (callsIn_wide.2 (HSUM.out _ (below_drewN (Below.refl _ _) 1)))).mono ?_; rintro e w1 ⟨vs, rfl, hrow, hb1⟩; obtain ⟨ps, cs, rfl⟩ := hrow.shape; have HRO := aside hrow; have HB1 := aside (below_then (below_drewN (Below.refl _ _) 1) hb1); clear hrow hb1; have a3' := A3.out w1 HB1.out)
        | (gi_at_call 78; refine (CallsIn.inRound l (callsIn_wide.2 (equal78_calls HRO.out (HRW.out _ HB1.out) HLEN.out HRS.out))).mono ?_; rintro e w2 ⟨rfl, hb2⟩; have HB2 := aside (below_then HB1.out hb2); clear hb2; have c80' := C80.out w2 HB2.out; have c81' := C81.out w2 HB2.out))
      all_goals
        rw [decide_eq_false HIT.out]
        gi_wp2
        first | exact HRQ.out _ (HBS.out.miss HF.out HB2.out (fun e => HIT.out (by rw [← HS.out]; exact e))) | exact ⟨rfl, HRQ.out _ (HBS.out.miss HF.out HB2.out (fun e => HIT.out (by rw [← HS.out]; exact e)))⟩
  case done =>
    intro g W hg hi hK
    obtain ⟨v, L, ho, hk, hlen, hb, hs⟩ := hi
    have h5 := HF.out.size
    have hown : SpsOwn W v L := ho.sps
    have hbox := ho.box
    have hbel : Below w.heap.size w W := HF.out.below.trans (hb.mono (by omega))
    have hbnd : ∀ s ∈ L, s.cnt.length < 1000 ∧ bndL 1000000000 s.cnt := fun s hs => keep_bnd hk (by rw [E2.out]; exact HN2.out) HK.out s hs
    have hLL : L.length < 100000 := Nat.lt_of_le_of_lt hlen HBX.out
    have HS := aside (sort_calls hown hbnd hLL)
    have HB := aside hbel
    have HKY := aside hk
    have HBX2 := aside hbox
    have HKK := aside hK
    have HOV := aside (fun b (hb : v.ownBlock = some b) => (ho.own.lt b hb).1)
    have oc := hbox.cell
    clear hown hbel hbnd hLL hk hb hs hlen hbox hK ho
    gi_wp2_with (gi_at_call 65; refine (callsIn_wide.2 HS.out).mono ?_; rintro e w2 ⟨rfl, L', hperm, hpw, hown, hturn⟩; have HR2 := aside (And.intro hperm (And.intro hpw (And.intro hown hturn))); have oc2 : w2.cell? ⟨w.heap.size + 1 + 1, 0, none⟩ = some v := (hturn.cell (p := ⟨w.heap.size + 2, 0, none⟩) HBX2.out.lt (fun e => by have := HOV.out (w.heap.size + 2) e; omega)).trans HBX2.out.cell; clear hperm hpw hown hturn)
    have hK2 : w2.heap[w.heap.size + 5]? = some (.deferred (some [])) := by
      have h0 := HKK.out
      rw [HF.out.size] at h0
      rw [HR2.out.2.2.2.same _ (Array.getElem?_eq_some_iff.1 h0).1 (fun e => by have := HOV.out _ e; omega)]
      exact h0
    refine ⟨by simp, .inl ⟨_, _, rfl, run_takeDeferred hK2, ?_⟩⟩
    refine ⟨_, results_tmp rfl _ _ _, v, L', rfl, HR2.out.2.2.1.put hK2 rfl, ?_, HR2.out.2.1, ?_, fun b hb => by have := HOV.out b hb; omega⟩
    · rw [← HKY.out]; exact HR2.out.1.map spKey
    · have hWs := HB.out.size
      have h2s := HR2.out.2.2.2.size
      exact (HB.out.trans (HR2.out.2.2.2.below hWs (fun k e => by have := HOV.out k e; omega))).trans (Turn.below (G := fun k => k = w.heap.size + 5) (Turn.put _ rfl) (Nat.le_trans hWs h2s) (fun k e => by omega))
end Go.Proofs.YtjiijgdkdlelhaaGreatDoor

/- spelling.All at a right notation and a possible bound: the walk. -/
namespace Go.Proofs.YtjiijgdkdlelhaaGreatDoor
open Go Go.RowKit Go.Shelf Go.Lib

theorem boxTo_length (k m : Nat) : ∀ n, (boxTo k m n 0).length = n * (2 * k + 1) ^ m
  | 0 => by simp [boxTo]
  | n + 1 => by
    have h := boxTo_length k m n
    unfold boxTo at h ⊢
    rw [List.range_zero, List.map_nil, List.append_nil] at h ⊢
    rw [List.range_succ, List.flatMap_append, List.length_append, h, Nat.succ_mul n]
    simp

set_option maxRecDepth 20000 in
set_option maxHeartbeats 2000000 in
theorem allE_calls {w : World} {p1 p2 pr : Option Addr} {n1 q1 n2 q2 nr qr d k : Nat} {L1 L2 : List Sym} {rs : List Int} (H : ChecksTo w p1 n1 q1 p2 n2 q2 0) (h1 : SymsAt w (.slice p1 n1 q1) L1) (h2 : SymsAt w (.slice p2 n2 q2) L2) (F : Flat L1 L2 d)
    (hr : RowAt w (.slice pr nr qr) rs) (hre : rowErr rs = 0) (hlr : rs.length = d) (hk : k < 1000) (hbn : boxN n1 k n2 ≤ 20000) (hbox : (boxTo k L2.length L1.length 0).length < 100000) :
    Calls Tryz.prog 13 #[.agg #[.slice p1 n1 q1, .slice p2 n2 q2], .slice pr nr qr, .int .i64 k] w fun e w' => ∃ v L, e = .returned (.tuple #[v, .int .i64 0]) ∧ SpsOwn w' v L ∧ (L.map spKey).Perm (keepS L1 L2 rs (boxTo k L2.length L1.length 0)) ∧ L.Pairwise (fun a b => ¬ spLst b < spLst a) ∧ Below w.heap.size w w' ∧ (∀ b, v.ownBlock = some b → w.heap.size ≤ b) := by
  have hb := below_alloc w (.cells #[.slice p1 n1 q1, .slice p2 n2 q2] 30)
  have T0 := cell_two w (.slice p1 n1 q1) (.slice p2 n2 q2) 30
  have e1 := h1.len
  have e2 := h2.len
  have er := hr.len
  obtain ⟨bb, oo, rfl, -, hbb, hrow1⟩ := nth_row h1 F.pos
  obtain ⟨pf, cf, hr1, -⟩ := hrow1 0 F.pos
  have hm0 : L1[0]! ∈ L1 ++ L2 := List.mem_append_left _ (by rw [getElem!_pos L1 0 F.pos]; exact List.getElem_mem F.pos)
  rw [(F.rows _ hm0).1, Nat.zero_mul, Nat.add_zero] at hr1
  have hnr : nr = d := by omega
  subst hnr
  have HCK := aside fun (W : World) (h : Below w.heap.size w W) => H W h
  have HRC := aside fun (W : World) (h : Below w.heap.size w W) => rowCheck_calls (hr.mono h) (by have := F.d1; omega)
  have HBO := aside fun (W : World) => bound_ok (p1 := some ⟨bb, oo, none⟩) (q1 := q1) (p2 := p2) (q2 := q2) W (show n1 < 1000 by have := F.l1; omega) (show n2 < 1000 by have := F.l2; omega) hk hbn
  have HAL := aside fun (W : World) (h : Below w.heap.size w W) => all_calls (k := k) (h1.mono h) (h2.mono h) (hr.mono h) F.l1 F.l2 F.rows F.d0 F.d1 (by have := F.d1; omega) hk hbox
  have HC := aside fun (W : World) (h : Below (w.alloc (.cells #[.slice (some ⟨bb, oo, none⟩) n1 q1, .slice p2 n2 q2] 30)).heap.size (w.alloc (.cells #[.slice (some ⟨bb, oo, none⟩) n1 q1, .slice p2 n2 q2] 30)) W) => cell_step ⟨by simp, T0.1, T0.2⟩ h
  have HR1 := aside fun (W : World) (h : Below w.heap.size w W) => (h.cell (p := ⟨bb, oo + 1, none⟩) hbb).trans hr1
  have hn1 : 0 < n1 := by have := F.pos; omega
  have hn1z : (0 : Int) < (n1 : Int) := by omega
  have HRE := aside hre
  have HB := aside hb
  have T00 := T0.1
  have T01 := T0.2
  clear H h1 h2 F hr hre hlr hk hbn hbox hb T0 e1 e2 er hrow1 hr1 hm0 hbb
  go_enter Tryz.func13, Tryz.ntmps13
  go_wp2_with (first
    | (go_at_call 45; refine (HCK.out _ HB.out).mono ?_; rintro e wa ⟨rfl, hb1⟩; have B1 := below_then HB.out hb1; obtain ⟨x0, x1, x2⟩ := HC.out _ hb1; have b1 := aside hb1; clear hb1)
    | (go_at_call 30; refine (HRC.out _ B1).mono ?_; rintro e wb ⟨he, hb2⟩; rw [HRE.out] at he; subst he; have B2 := below_then B1 hb2; have b2 := aside (below_then b1.out hb2); obtain ⟨y0, y1, y2⟩ := HC.out _ b2.out; have yr := HR1.out _ B2; clear hb2)
    | (go_at_call 55; refine (HBO.out _).mono ?_; rintro e wc ⟨rfl, hb3⟩; have B3 := below_then B2 hb3; have b3 := aside (below_then b2.out hb3); obtain ⟨z0, z1, z2⟩ := HC.out _ b3.out; clear hb3)
    | (go_at_call 56; refine (HAL.out _ B3).mono ?_; rintro e wd ⟨v, L, rfl, ho, hp, hpw, hb4, hv⟩; have HR := aside (And.intro ho (And.intro hp (And.intro hpw (And.intro (below_then B3 hb4) hv)))); clear ho hp hpw hb4 hv))
  go_ret2
  exact ⟨v, L, rfl, HR.out.1, HR.out.2.1, HR.out.2.2.1, HR.out.2.2.2.1, fun b hb => Nat.le_trans B3.size (HR.out.2.2.2.2 b hb)⟩
end Go.Proofs.YtjiijgdkdlelhaaGreatDoor

/- A row of spellings as cells: what a store and clear leave (plain). -/
namespace Go.Proofs.YtjiijgdkdlelhaaGreatDoor
open Go Go.RowKit Go.Shelf Go.Lib Go.Sort

/-- Spellings lie in a block from its beginning. -/
def SpC (w : World) (b : Nat) (L : List Sp) : Prop := ∀ j, j < L.length → (w.cell? ⟨b, j * 2, none⟩ = some (.int .i64 L[j]!.nom) ∧ w.frozen? ⟨b, j * 2, none⟩ = false) ∧ (w.cell? ⟨b, j * 2 + 1, none⟩ = some L[j]!.row ∧ w.frozen? ⟨b, j * 2 + 1, none⟩ = false)
theorem spC_iff {w : World} {b : Nat} {L : List Sp} : SpC w b L ↔ HoldsK Sp.enc 2 w b 0 L.toArray := by
  have e : ∀ j, j < L.length → L.toArray[j]! = L[j]! := fun j hj => by rw [getElem!_pos L j hj, getElem!_pos L.toArray j (by simpa using hj)]; simp
  constructor
  · intro h t ht
    have ht' : t < L.length * 2 := by simpa [flatK] using ht
    have h2 : t / 2 < L.length := by omega
    have h3 := h (t / 2) h2
    rw [get_flatK _ _ _ _ (by simpa using ht'), e _ h2]
    have h4 : t % 2 = 0 ∨ t % 2 = 1 := by omega
    rcases h4 with h4 | h4
    · rw [h4, show 0 + t = t / 2 * 2 by omega]
      exact h3.1
    · rw [h4, show 0 + t = t / 2 * 2 + 1 by omega]
      exact h3.2
  · intro h j hj
    have h0 := h.cell (i := j) (c := 0) (by simpa using hj) (by omega)
    have h1 := h.cell (i := j) (c := 1) (by simpa using hj) (by omega)
    rw [e j hj, Nat.zero_add] at h0 h1
    exact ⟨h0, h1⟩
theorem SpC.turn {G : Nat → Prop} {w W : World} {b : Nat} {L : List Sp} (h : SpC w b L) (ht : Turn G w W) (hb : b < w.heap.size) (hn : ¬ G b) : SpC W b L := fun j hj => by
  have hs := ht.same b hb hn
  have := h j hj
  exact ⟨⟨(cell_same hs _).trans this.1.1, (World.frozen?_of_block (a := ⟨b, j * 2, none⟩) hs).trans this.1.2⟩, (cell_same hs _).trans this.2.1, (World.frozen?_of_block (a := ⟨b, j * 2 + 1, none⟩) hs).trans this.2.2⟩
theorem SpC.set {w : World} {b i : Nat} {L : List Sp} {s : Sp} (h : SpC w b L) (hi : i < L.length) : SpC ((w.setCell ⟨b, i * 2, none⟩ (.int .i64 s.nom)).setCell ⟨b, i * 2 + 1, none⟩ s.row) b (L.set i s) := fun j hj => by
  rw [List.length_set] at hj
  have hne : ∀ p q : Nat, p ≠ q → (⟨b, p, none⟩ : Addr) ≠ ⟨b, q, none⟩ := fun p q hpq e => hpq (by cases e; rfl)
  have hh := h j hj
  rw [World.frozen?_setCell, World.frozen?_setCell, World.frozen?_setCell, World.frozen?_setCell]
  have e : (L.set i s)[j]! = if j = i then s else L[j]! := by
    rw [getElem!_pos (L.set i s) j (by rw [List.length_set]; exact hj), List.getElem_set, getElem!_pos L j hj]
    by_cases hij : i = j
    · rw [if_pos hij, if_pos hij.symm]
    · rw [if_neg hij, if_neg (fun e => hij e.symm)]
  rw [e]
  by_cases hij : j = i
  · subst hij
    rw [if_pos rfl]
    refine ⟨⟨?_, hh.1.2⟩, ?_, hh.2.2⟩
    · rw [World.cell?_setCell_other _ _ _ _ (hne _ _ (by omega))]
      exact World.cell?_setCell_same _ _ _ hh.1.1
    · refine World.cell?_setCell_same _ _ _ (u := L[j]!.row) ?_
      rw [World.cell?_setCell_other _ _ _ _ (hne _ _ (by omega))]
      exact hh.2.1
  · rw [if_neg hij]
    refine ⟨⟨?_, hh.1.2⟩, ?_, hh.2.2⟩
    · rw [World.cell?_setCell_other _ _ _ _ (hne _ _ (by omega)), World.cell?_setCell_other _ _ _ _ (hne _ _ (by omega))]
      exact hh.1.1
    · rw [World.cell?_setCell_other _ _ _ _ (hne _ _ (by omega)), World.cell?_setCell_other _ _ _ _ (hne _ _ (by omega))]
      exact hh.2.1
theorem SpC.clear {w : World} {b i : Nat} {L : List Sp} {vs : List Value} (h : SpC w b L) (hi : i ≤ L.length) : SpC (w.setCells b (i * 2) vs) b (L.take i) := fun j hj => by
  have hj' : j < i := by rw [List.length_take] at hj; omega
  have hjl : j < L.length := by omega
  have hh := h j hjl
  have e : (L.take i)[j]! = L[j]! := by rw [getElem!_pos (L.take i) j hj, List.getElem_take, getElem!_pos L j hjl]
  rw [e, World.frozen?_setCells, World.frozen?_setCells, World.cell?_setCells_out _ _ _ _ _ (fun _ _ => .inl (by show j * 2 < _; omega)), World.cell?_setCells_out _ _ _ _ _ (fun _ _ => .inl (by show j * 2 + 1 < _; omega))]
  exact hh
theorem Turn.setCells {G : Nat → Prop} {b : Nat} (hb : G b) : ∀ (vs : List Value) (o : Nat) (A : World), Turn G A (A.setCells b o vs)
  | [], _, A => Turn.refl _ A
  | v :: vs, o, A => (Turn.set v (p := ⟨b, o, none⟩) hb).trans (Turn.setCells hb vs (o + 1) _)

/-- What has been kept: j read, i written. -/
structure KeptL (p : Sp → Bool) (L : List Sp) (j i : Nat) (D : List Sp) : Prop where
  len : D.length = L.length
  lt : i < j
  le : j ≤ L.length
  low : D.take i = (L.take j).filter fun x => !p x
  high : D.drop j = L.drop j
theorem KeptL.start {p : Sp → Bool} {L : List Sp} {k : Nat} (hk : k < L.length) (h0 : ∀ j, j < k → p L[j]! = false) (h1 : p L[k]! = true) : KeptL p L (k + 1) k L := by
  refine ⟨rfl, Nat.lt_succ_self k, hk, ?_, rfl⟩
  have e : (L.take k).filter (fun x => !p x) = L.take k := by
    rw [List.filter_eq_self]
    intro a ha
    obtain ⟨j, hj, rfl⟩ := List.getElem_of_mem ha
    rw [List.getElem_take]
    have hj' : j < k := by rw [List.length_take] at hj; omega
    have := h0 j hj'
    rw [getElem!_pos L j (by omega)] at this
    rw [this]; rfl
  rw [List.take_succ_eq_append_getElem hk, List.filter_append, e]
  rw [getElem!_pos L k hk] at h1
  simp [h1]
theorem KeptL.skip {p : Sp → Bool} {L : List Sp} {j i : Nat} {D : List Sp} (h : KeptL p L j i D) (hj : j < L.length) (hp : p L[j]! = true) : KeptL p L (j + 1) i D := by
  have := h.lt
  refine ⟨h.len, by omega, hj, ?_, ?_⟩
  · rw [getElem!_pos L j hj] at hp
    rw [List.take_succ_eq_append_getElem hj, List.filter_append, ← h.low]
    simp [hp]
  · rw [← List.drop_drop, ← List.drop_drop, h.high]
theorem KeptL.keep {p : Sp → Bool} {L : List Sp} {j i : Nat} {D : List Sp} (h : KeptL p L j i D) (hj : j < L.length) (hp : p L[j]! = false) : KeptL p L (j + 1) (i + 1) (D.set i L[j]!) := by
  have h1 := h.lt
  have h2 := h.len
  refine ⟨by rw [List.length_set, h.len], by omega, hj, ?_, ?_⟩
  · rw [getElem!_pos L j hj] at hp ⊢
    rw [List.take_succ_eq_append_getElem hj, List.filter_append, ← h.low, List.take_succ_eq_append_getElem (by rw [List.length_set]; omega), List.getElem_set_self, List.take_set_of_le (Nat.le_refl _)]
    simp [hp]
  · rw [List.drop_set_of_lt (by omega), ← List.drop_drop, ← List.drop_drop, h.high]
theorem KeptL.end {p : Sp → Bool} {L : List Sp} {i : Nat} {D : List Sp} (h : KeptL p L L.length i D) : D.take i = L.filter fun x => !p x := by
  have := h.low
  rwa [List.take_length] at this
theorem KeptL.at {p : Sp → Bool} {L : List Sp} {j i : Nat} {D : List Sp} (h : KeptL p L j i D) (hj : j < L.length) : D[j]! = L[j]! := by
  have h2 := h.len
  have := congrArg (fun l => l[0]?) h.high
  simp only [List.getElem?_drop, Nat.add_zero] at this
  rw [List.getElem?_eq_getElem (by omega), List.getElem?_eq_getElem hj] at this
  rw [getElem!_pos D j (by omega), getElem!_pos L j hj]
  exact Option.some.inj this

theorem Tryz.zero42 (w : World) : (zeroValue 42).run Tryz.prog w = .ok (.agg #[.int .i64 0, .slice none 0 0]) w := by
  obtain ⟨i, hi, hz, -, -⟩ := info_parts Tryz.info42
  simp [zeroValue, typeInfo, hi, hz, go_sem]
/-- clear(s) at spellings. -/
theorem run_clear_sps (w : World) (ty : TypeId) (b o n c : Nat) (hn : 0 < n) (hc : ∀ j, j < n * 2 → (w.cell? ⟨b, o + j, none⟩).isSome = true) (hf : ∀ j, j < n * 2 → w.frozen? ⟨b, o + j, none⟩ = false) :
    ∃ vs : List Value, (Builtin.clear_ #[36] ty #[.slice (some ⟨b, o, none⟩) n c]).run Tryz.prog w = .ok (.tuple #[]) (w.setCells b o vs) := by
  obtain ⟨vs, hvs⟩ : ∃ vs, vs = (Builtin.zeroCells (Value.agg #[.int .i64 0, .slice none 0 0]).cells n).toList := ⟨_, rfl⟩
  have hl : vs.length = n * 2 := by rw [hvs]; simp [Builtin.zeroCells, Value.cells]
  have h1 : ∀ v ∈ vs, v.oneCell' = true := by
    intro v hv
    rw [hvs] at hv
    simp [Builtin.zeroCells, Value.cells] at hv
    obtain ⟨a, ha, rfl⟩ := hv
    have h4 : a % 2 = 0 ∨ a % 2 = 1 := by omega
    rcases h4 with h4 | h4 <;> rw [h4] <;> rfl
  refine ⟨vs, ?_⟩
  have hst := run_storeCells_cells (P := Tryz.prog) b o vs 0 w (by rw [hl]; simpa using hc) (by rw [hl]; simpa using hf) h1
  simp only [Nat.add_zero] at hst
  obtain ⟨m, rfl⟩ : ∃ m, n = m + 1 := ⟨n - 1, by omega⟩
  rw [hvs] at hst
  rw [hvs]
  simp [Builtin.clear_, run_underlying Tryz.underlying36, Tryz.zero42, hst]
end Go.Proofs.YtjiijgdkdlelhaaGreatDoor

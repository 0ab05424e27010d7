import Derived.Test.YtalpbdabeffnlaaGreatJoAH
import Derived.Test.YtalpbdabeffnlaaGreatJoAK
import Derived.Ground.SlsfProg
/- slices.SortFunc over fields: its contract at this program. -/
set_option linter.unusedVariables false
set_option linter.unusedSimpArgs false
namespace Go.Proofs.YtalpbdabeffnlaaGreat
open Go Go.Av Go.Shelf Go.RowKit Go.Lib Go.Sort
set_option maxRecDepth 100000

/-! The laying: written by the kit's own tool for this program. -/
def sortF_ren : Go.Shelf.Ren := ⟨fun | 6 => 112 | 15 => 152 | 14 => 151 | 28 => 180 | 29 => 181 | 20 => 172 | 21 => 173 | 22 => 174 | 23 => 175 | 24 => 176 | 25 => 177 | 26 => 178 | 27 => 179 | 46 => 187 | 47 => 188 | 48 => 189 | 49 => 190 | 50 => 191 | 57 => 193 | n => n, fun | 22 => 22 | 24 => 39 | 25 => 132 | 3 => 3 | 39 => 163 | 0 => 0 | 53 => 188 | 55 => 190 | 4 => 4 | 46 => 181 | 45 => 180 | 50 => 185 | 5 => 5 | 9 => 9 | 66 => 194 | 70 => 198 | 76 => 201 | 77 => 202 | n => n, fun | n => n⟩
theorem sortF : Go.Proofs.SlLaysF0.n6 Tryz.prog sortF_ren := {
  mixed := by kernel_rfl
  f6 := ⟨Tryz.f112.name, by decide, Tryz.func112.trans (congrArg some (by kernel_rfl))⟩
  f14 := ⟨Tryz.f151.name, by decide, Tryz.func151.trans (congrArg some (by kernel_rfl))⟩
  f15 := Tryz.func152.trans (congrArg some (by kernel_rfl))
  f20 := ⟨Tryz.f172.name, by decide, Tryz.func172.trans (congrArg some (by kernel_rfl))⟩
  f21 := ⟨Tryz.f173.name, by decide, Tryz.func173.trans (congrArg some (by kernel_rfl))⟩
  f22 := ⟨Tryz.f174.name, by decide, Tryz.func174.trans (congrArg some (by kernel_rfl))⟩
  f23 := ⟨Tryz.f175.name, by decide, Tryz.func175.trans (congrArg some (by kernel_rfl))⟩
  f24 := ⟨Tryz.f176.name, by decide, Tryz.func176.trans (congrArg some (by kernel_rfl))⟩
  f25 := ⟨Tryz.f177.name, by decide, Tryz.func177.trans (congrArg some (by kernel_rfl))⟩
  f26 := ⟨Tryz.f178.name, by decide, Tryz.func178.trans (congrArg some (by kernel_rfl))⟩
  f27 := ⟨Tryz.f179.name, by decide, Tryz.func179.trans (congrArg some (by kernel_rfl))⟩
  f28 := Tryz.func180.trans (congrArg some (by kernel_rfl))
  f29 := Tryz.func181.trans (congrArg some (by kernel_rfl))
  f46 := ⟨Tryz.f187.name, by decide, Tryz.func187.trans (congrArg some (by kernel_rfl))⟩
  f47 := Tryz.func188.trans (congrArg some (by kernel_rfl))
  f48 := Tryz.func189.trans (congrArg some (by kernel_rfl))
  f49 := ⟨Tryz.f190.name, by decide, Tryz.func190.trans (congrArg some (by kernel_rfl))⟩
  f50 := ⟨Tryz.f191.name, by decide, Tryz.func191.trans (congrArg some (by kernel_rfl))⟩
  f57 := ⟨Tryz.f193.name, by decide, Tryz.func193.trans (congrArg some (by kernel_rfl))⟩
  t0 := Tryz.underlying0
  a0 := Tryz.isAgg0
  z0 := Tryz.sizeOf0
  v0 := Tryz.zeroValue0
  t3 := Tryz.underlying3
  a3 := Tryz.isAgg3
  z3 := Tryz.sizeOf3
  v3 := Tryz.zeroValue3
  t4 := Tryz.underlying4
  a4 := Tryz.isAgg4
  z4 := Tryz.sizeOf4
  v4 := Tryz.zeroValue4
  t5 := Tryz.underlying5
  a5 := Tryz.isAgg5
  z5 := Tryz.sizeOf5
  v5 := Tryz.zeroValue5
  t9 := Tryz.underlying9
  a9 := Tryz.isAgg9
  z9 := Tryz.sizeOf9
  v9 := Tryz.zeroValue9
  t22 := Tryz.underlying22
  a22 := Tryz.isAgg22
  z22 := Tryz.sizeOf22
  v22 := Tryz.zeroValue22
  t25 := Tryz.underlying132
  a25 := Tryz.isAgg132
  z25 := Tryz.sizeOf132
  v25 := Tryz.zeroValue132
  t39 := Tryz.underlying163
  a39 := Tryz.isAgg163
  z39 := Tryz.sizeOf163
  v39 := Tryz.zeroValue163
  t45 := Tryz.underlying180
  a45 := Tryz.isAgg180
  z45 := Tryz.sizeOf180
  v45 := Tryz.zeroValue180
  t46 := Tryz.underlying181
  a46 := Tryz.isAgg181
  z46 := Tryz.sizeOf181
  v46 := Tryz.zeroValue181
  t50 := Tryz.underlying185
  a50 := Tryz.isAgg185
  z50 := Tryz.sizeOf185
  v50 := Tryz.zeroValue185
  t53 := Tryz.underlying188
  a53 := Tryz.isAgg188
  z53 := Tryz.sizeOf188
  v53 := Tryz.zeroValue188
  t55 := Tryz.underlying190
  a55 := Tryz.isAgg190
  z55 := Tryz.sizeOf190
  v55 := Tryz.zeroValue190
  t66 := Tryz.underlying194
  a66 := Tryz.isAgg194
  z66 := Tryz.sizeOf194
  v66 := Tryz.zeroValue194
  t70 := Tryz.underlying198
  a70 := Tryz.isAgg198
  z70 := Tryz.sizeOf198
  v70 := Tryz.zeroValue198
  t76 := Tryz.underlying201
  a76 := Tryz.isAgg201
  z76 := Tryz.sizeOf201
  v76 := Tryz.zeroValue201
  t77 := Tryz.underlying202
  a77 := Tryz.isAgg202
  z77 := Tryz.sizeOf202
  v77 := Tryz.zeroValue202 }

theorem GCall.blk1 {P : Program} {g : FuncId} {ys : List AV} {b b' : Blk} {res : AV} {obs : List (Option Blk)} (h : GCall P g ys [some b'] res obs) (hle : BlkLe b b') : GCall P g ys [some b] res obs := by
  refine ⟨h.1, fun w F ν vals hh hν hlen hargs => ?_⟩
  have eta : ∀ {x y : Blk} {n : Nat} {bn : Blk}, enumB [some x] n = some bn → n = 0 ∧ bn = x := by
    intro x y n bn hn
    match n with
    | 0 => exact ⟨rfl, by injection hn with hn; exact hn.symm⟩
    | n + 1 => cases hn
  have own : ∀ {x y : Blk} (g : Nat), Owns ν (enumB [some x]) g → Owns ν (enumB [some y]) g := by
    rintro x y g ⟨n, bn, u, h1, h2, h3⟩
    obtain ⟨rfl, rfl⟩ := eta (y := y) h1
    exact ⟨0, y, u, rfl, h2, h3⟩
  have hh' : HInv w F ν (enumB [some b']) := ⟨hh.fb, fun n blk hn => by
      obtain ⟨rfl, rfl⟩ := eta (y := b) hn
      obtain ⟨u, hu, hr⟩ := hh.rep 0 b rfl
      exact ⟨u, hu, hle _ _ _ _ hr⟩, fun n m bn bm u u' g hn hm _ _ _ _ => by
      obtain ⟨rfl, rfl⟩ := eta (y := b) hn
      obtain ⟨rfl, rfl⟩ := eta (y := b) hm
      rfl, fun n bn u g hn hu hg => by
      obtain ⟨rfl, rfl⟩ := eta (y := b) hn
      exact hh.out 0 b u g rfl hu hg⟩
  refine (h.2 w F ν vals hh' hν hlen hargs).mono fun e w' ⟨v, F', ν', e1, e2, e3, e4, e5, e6, e7, e8, e9, e10⟩ => ?_
  exact ⟨v, F', ν', e1, e2, e3, ⟨e4.size, fun k hk hS => e4.blk k hk fun ho => hS (own k ho), e4.os, e4.tape, e4.output⟩, e5, e6, fun g hg => (e7 g hg).imp (own g) id, e8, fun k hk => (e9 k hk).imp id (Or.imp (own k) id), e10⟩

/-- slices.SortFunc, by places, of fields that stand at places of their own: 'm' is what is sorted of it. -/
theorem f97 (l m : List SField) (hne : 0 < l.length) (hlen : l.length < 4611686018427387904) (hp : m.Perm l) (hs : m.Pairwise fun a b => lessRef a.place b.place = true) (c : Nat → PV) :
    GCall Tryz.prog 112 [.sl 0, .p (.fn 113 0 c)] [rowFields l] (.p .any) [rowFields m] := by
  refine ⟨Ent.of Tryz.func112 rfl (by kernel_rfl), fun w F ν vals hh hν hvl hargs => ?_⟩
  obtain ⟨u, fv, rfl⟩ : ∃ u fv, vals = [u, fv] := by
    match vals, hvl with
    | [u, fv], _ => exact ⟨u, fv, rfl⟩
  have hu : ν 0 = some u := hargs 0 (.sl 0) u rfl rfl
  obtain ⟨cs, rfl, hcs0, _⟩ := hargs 1 (.p (.fn 113 0 c)) fv rfl rfl
  have : cs = #[] := Array.eq_empty_of_size_eq_zero hcs0
  subst this
  obtain ⟨u', hu', xs, ⟨hxl, hown⟩, hcc⟩ := hh.rep 0 (.row 39 7 l.length fun i => at_ .any (fieldCells (l.getD i noField))) rfl
  rw [hu] at hu'
  injection hu' with hu'
  subst hu'
  rcases hown with ⟨_, hz⟩ | ⟨g, cap, cur, rfl, _, hg, hnc, hcm, hcs, htk⟩
  · omega
  have hxs : ∀ t, t < l.length * 7 → xs[t]? = cur[t]? := by
    intro t ht
    rw [← htk, List.getElem?_take, if_pos ht, Array.getElem?_toList]
  have hcap : l.length * 7 ≤ cap * 7 := Nat.mul_le_mul_right _ hnc
  -- the slices that the elements bear
  have hv : ∀ i, ∃ v : One, i < l.length → xs[i * 7 + 5]? = some v.1 ∧ RepP w F (encStrs (l.getD i noField).cases) v.1 := by
    intro i
    by_cases hi : i < l.length
    · obtain ⟨c5, q1, q2, q3⟩ := hcc i 5 hi (by omega)
      exact ⟨⟨c5, q2⟩, fun _ => ⟨q1, q3⟩⟩
    · exact ⟨default, fun h => absurd h hi⟩
  let cv : Nat → One := fun i => Classical.choose (hv i)
  have hcv : ∀ i, i < l.length → xs[i * 7 + 5]? = some (cv i).1 ∧ RepP w F (encStrs (l.getD i noField).cases) (cv i).1 := fun i hi => Classical.choose_spec (hv i) hi
  obtain ⟨d, hd⟩ : ∃ d : Array (SField × One), d = (Array.range l.length).map fun i => (l.getD i noField, cv i) := ⟨_, rfl⟩
  have hds : d.size = l.length := by rw [hd]; simp
  have hdg : ∀ i, i < l.length → d[i]? = some (l.getD i noField, cv i) := by
    intro i hi
    rw [hd]
    simp [hi]
  have hdb : ∀ i, i < l.length → d[i]! = (l.getD i noField, cv i) := by
    intro i hi
    have := hdg i hi
    rw [getElem!_pos d i (by omega)]
    rw [Array.getElem?_eq_getElem (by omega)] at this
    injection this
  have hcell : ∀ i c, i < l.length → c < 7 → xs[i * 7 + c]? = some ((encE (l.getD i noField, cv i))[c]!) := by
    intro i c hi hc
    obtain ⟨v, q1, _, q3⟩ := hcc i c hi hc
    have hc : c = 0 ∨ c = 1 ∨ c = 2 ∨ c = 3 ∨ c = 4 ∨ c = 5 ∨ c = 6 := by omega
    rcases hc with rfl | rfl | rfl | rfl | rfl | rfl | rfl
    · rw [q1]; exact congrArg some q3
    · rw [q1]; exact congrArg some q3
    · rw [q1]; exact congrArg some q3
    · rw [q1]; exact congrArg some q3
    · rw [q1]; exact congrArg some q3
    · exact (hcv i hi).1
    · rw [q1]; exact congrArg some q3
  have hH : HoldsK encE 7 w g 0 d := by
    intro t ht
    have ht : t < l.length * 7 := by simpa [hds] using ht
    have hi : t / 7 < l.length := by omega
    have h7 : t % 7 < 7 := Nat.mod_lt _ (by omega)
    have hcur : cur[t]? = some ((encE (l.getD (t / 7) noField, cv (t / 7)))[t % 7]!) := by
      rw [← hxs t ht]
      have := hcell (t / 7) (t % 7) hi h7
      rw [show t / 7 * 7 + t % 7 = t by omega] at this
      exact this
    refine ⟨?_, ?_⟩
    · rw [get_flatK _ _ _ _ (by rw [hds]; exact ht), hdb _ hi]
      unfold World.cell?
      simp [hg, hcur]
    · unfold World.frozen?
      simp [hg]
  have eg : ∀ args w, (callFunc 113 args).run Tryz.prog w = .ok (.enter 113 args) w := fun args w => (f98 noField noField).1 args w
  have hcon := AnyQ.slices_SortFunc sortF 7 Tryz.isAgg39 Tryz.sizeOf39 encE (fun _ => rfl) encE_one cmpE swoE 113 #[] g 0 cap d w eg (cmpLaysE g 0 d.size w) hH (Array.getElem?_eq_some_iff.1 hg).1 (by omega)
  change Calls Tryz.prog 112 _ _ _ at hcon
  rw [hds] at hcon
  refine hcon.mono ?_
  rintro e w' ⟨rfl, d', q, os, hperm, hsorted, rfl⟩
  have hd's : d'.size = l.length := hperm.1.trans hds
  -- the heap behind
  have hsz : (sortWorldK encE 7 w g 0 q d' os).heap.size = w.heap.size + os.size := by
    unfold sortWorldK grow putRowK
    simp
  have hheap : ∀ k, k < w.heap.size → (sortWorldK encE 7 w g 0 q d' os).heap[k]? = if g = k then (w.heap[k]?).map (onCells (putCells id 0 (flatK encE 7 d'))) else w.heap[k]? := by
    intro k hk
    unfold sortWorldK grow putRowK putRow mapBlock
    simp only
    rw [Array.getElem?_append_left (by simpa using hk), Array.getElem?_modify]
    rfl
  obtain ⟨w', hw'⟩ : ∃ w', w' = sortWorldK encE 7 w g 0 q d' os := ⟨_, rfl⟩
  have hdr : w.drawn ≤ w'.drawn := by rw [hw']; exact Nat.le_add_right _ _
  have hos : w'.os = w.os := by rw [hw']; rfl
  have htp : w'.tape = w.tape := by rw [hw']; rfl
  have hout : w'.output = w.output := by rw [hw']; rfl
  rw [← hw'] at hsz hheap ⊢
  clear hw'
  have hglt : g < w.heap.size := (Array.getElem?_eq_some_iff.1 hg).1
  obtain ⟨cur', hcur'⟩ : ∃ cur', cur' = putCells id 0 (flatK encE 7 d') cur := ⟨_, rfl⟩
  have hg' : w'.heap[g]? = some (.cells cur' 39 (0, 0)) := by
    rw [hheap g hglt, if_pos rfl, hg, hcur']; rfl
  have hother : ∀ k, k < w.heap.size → k ≠ g → w'.heap[k]? = w.heap[k]? := fun k hk hne => by rw [hheap k hk, if_neg (Ne.symm hne)]
  have hcs' : cur'.size = cur.size := by rw [hcur']; simp [putCells]
  have hget : ∀ t, t < l.length * 7 → cur'[t]? = some ((encE d'[t / 7]!)[t % 7]!) := by
    intro t ht
    have ht2 : t < cur.size := by omega
    rw [hcur']
    unfold putCells
    rw [Array.getElem?_mapIdx, Array.getElem?_eq_getElem ht2]
    simp only [Option.map_some]
    rw [if_pos ⟨Nat.zero_le _, by simp [hd's]; omega⟩]
    congr 1
    exact get_flatK encE 7 d' t (by rw [hd's]; exact ht)
  -- what the row holds now
  have hext : ∀ (a : Array (SField × One)), a.extract 0 a.size = a := fun a => by simp
  have hP : d'.toList.Perm d.toList := by
    have := hperm.2.2
    rw [← hds, hext d, show d.size = d'.size by rw [hds, hd's], hext d'] at this
    exact this
  have hdl : d.toList.map (·.1) = l := by
    refine List.ext_getElem? fun i => ?_
    rw [List.getElem?_map, Array.getElem?_toList]
    rcases Nat.lt_or_ge i l.length with hi | hi
    · rw [hdg i hi, List.getElem?_eq_getElem hi]
      simp [List.getD_eq_getElem?_getD, hi]
    · rw [Array.getElem?_eq_none (by omega), List.getElem?_eq_none hi]; rfl
  have hPm : m.Perm (d'.toList.map (·.1)) := hp.trans (by have := (hP.map (·.1)).symm; rw [hdl] at this; exact this)
  have hd'b : ∀ i (hi : i < l.length), d'[i]! = d'.toList[i]'(by simpa [hd's] using hi) := by
    intro i hi
    rw [getElem!_pos d' i (by omega)]
    simp
  have hm : m = d'.toList.map (·.1) := by
    refine List.Perm.eq_of_pairwise (le := fun a b => lessRef b.place a.place = false) (fun a b ha hb h1 h2 => ?_) (hs.imp fun h => less_asymm h) ?_ hPm
    · have hb' : b ∈ m := hPm.mem_iff.2 hb
      have he := less_conn h2 h1
      obtain ⟨i, hi, rfl⟩ := List.mem_iff_getElem.1 ha
      obtain ⟨j, hj, rfl⟩ := List.mem_iff_getElem.1 hb'
      have hpw := List.pairwise_iff_getElem.1 hs
      rcases Nat.lt_trichotomy i j with h | h | h
      · have := hpw i j hi hj h; rw [he, less_irrefl] at this; cases this
      · subst h; rfl
      · have := hpw j i hj hi h; rw [he, less_irrefl] at this; cases this
    · rw [List.pairwise_iff_getElem]
      intro i j hi hj hij
      simp only [List.length_map, Array.length_toList] at hi hj
      have := hsorted i j (Nat.zero_le _) hij (by omega)
      rw [lt_less, hd'b i (by omega), hd'b j (by omega)] at this
      simpa using this
  have hml : m.length = l.length := hp.length_eq
  have hmg : ∀ i, i < l.length → m.getD i noField = (d'[i]!).1 := by
    intro i hi
    rw [hd'b i hi, hm, List.getD_eq_getElem?_getD, List.getElem?_map, List.getElem?_eq_getElem (by simpa [hd's] using hi)]
    rfl
  have hrep5 : ∀ i, i < l.length → RepP w F (encStrs (d'[i]!).1.cases) (d'[i]!).2.1 := by
    intro i hi
    have hmem : d'[i]! ∈ d.toList := hP.mem_iff.1 (by rw [hd'b i hi]; exact List.getElem_mem _)
    obtain ⟨k, hk, hke⟩ := List.mem_iff_getElem.1 hmem
    have hk : k < l.length := by simpa [hds] using hk
    have : d'[i]! = (l.getD k noField, cv k) := by
      rw [← hke, ← hdb k hk, getElem!_pos d k (by omega)]
      simp
    rw [this]
    exact (hcv k hk).2
  have hFg : ∀ k, F k → w'.heap[k]? = w.heap[k]? := fun k hk => hother k (hh.fb k hk) fun e => hh.out 0 _ _ g rfl hu rfl (e ▸ hk)
  have len7 : (cur'.toList.take (l.length * 7)).length = l.length * 7 := by
    have e : cur'.toList.length = cap * 7 := (Array.length_toList).trans (hcs'.trans hcs)
    rw [List.length_take, e]
    omega
  have hrow : BlkRep w' F ν (.slice (some ⟨g, 0, none⟩) l.length cap) (.row 39 7 m.length fun i => at_ .any (fieldCells (m.getD i noField))) := by
    rw [hml]
    refine ⟨cur'.toList.take (l.length * 7), ⟨len7, .inr ⟨g, cap, cur', rfl, Nat.zero_le _, hg', hnc, hcm, by rw [hcs']; exact hcs, rfl⟩⟩, fun i j hi hj => ?_⟩
    have hij : i * 7 + j < l.length * 7 := by omega
    rw [List.getElem?_take, if_pos hij, Array.getElem?_toList, hget _ hij, show (i * 7 + j) / 7 = i by omega, show (i * 7 + j) % 7 = j by omega]
    show ∃ c, some (encE d'[i]!)[j]! = some c ∧ c.oneCell' = true ∧ RepP w' F (at_ .any (fieldCells (m.getD i noField)) j) c
    rw [hmg i hi]
    have hj : j = 0 ∨ j = 1 ∨ j = 2 ∨ j = 3 ∨ j = 4 ∨ j = 5 ∨ j = 6 := by omega
    rcases hj with rfl | rfl | rfl | rfl | rfl | rfl | rfl
    · exact ⟨_, rfl, rfl, rfl⟩
    · exact ⟨_, rfl, rfl, rfl⟩
    · exact ⟨_, rfl, rfl, rfl⟩
    · exact ⟨_, rfl, rfl, rfl⟩
    · exact ⟨_, rfl, rfl, rfl⟩
    · exact ⟨_, rfl, (d'[i]!).2.2, RepP.mono hFg (fun _ => id) _ _ (hrep5 i hi)⟩
    · exact ⟨_, rfl, rfl, rfl⟩
  have eta : ∀ {x : Blk} {n : Nat} {bn : Blk}, enumB [some x] n = some bn → n = 0 ∧ bn = x := by
    intro x n bn hn
    match n with
    | 0 => exact ⟨rfl, by injection hn with hn; exact hn.symm⟩
    | n + 1 => cases hn
  have own : ∀ {x y : Blk} (g : Nat), Owns ν (enumB [some x]) g → Owns ν (enumB [some y]) g := by
    rintro x y g ⟨n, bn, u, h1, h2, h3⟩
    obtain ⟨rfl, rfl⟩ := eta h1
    exact ⟨0, y, u, rfl, h2, h3⟩
  refine ⟨.tuple #[], F, ν, rfl, trivial, ⟨fun b hb => by rw [hsz]; exact Nat.lt_of_lt_of_le (hh.fb b hb) (Nat.le_add_right _ _), fun n blk hn => ?_, fun n k bn bm u u' g hn hm _ _ _ _ => ?_, fun n bn u g hn hu hg => ?_⟩,
    ⟨by rw [hsz]; exact Nat.le_add_right _ _, fun k hk hS => hother k hk fun e => hS (e ▸ ⟨0, _, _, rfl, hu, rfl⟩), hos, htp, hout⟩, fun _ _ => rfl, hν, fun g hg => .inl (own g hg), fun _ h => h, fun _ h => .inl h, hdr⟩
  · obtain ⟨rfl, rfl⟩ := eta hn
    exact ⟨_, hu, hrow⟩
  · obtain ⟨rfl, rfl⟩ := eta hn
    obtain ⟨rfl, rfl⟩ := eta hm
    rfl
  · obtain ⟨rfl, rfl⟩ := eta hn
    exact hh.out 0 _ u g rfl hu hg
end Go.Proofs.YtalpbdabeffnlaaGreat

/- One more, as the program does it; SchemaTurns' law. -/
set_option linter.unusedVariables false
set_option linter.unusedSimpArgs false
namespace Go.Proofs.YtalpbdabeffnlaaGreat
open Go Go.Av
set_option maxRecDepth 100000
set_option maxHeartbeats 2000000

theorem f45 (l : List SField) (f : SField) (hl : fitFields l) (hf : fitField f) : PCall Tryz.prog 56 [encFields l, encField f] (encTake (withF l f)) [] := by
  have hlen := hl.1
  refine gcode hT hM Tryz.func56 rfl rfl (rv := [(4, none), (5, none)]) rfl rfl rfl fun G hG => ?_
  conv => whnf
  refine CallK.lent (f33 l hl.ok) rfl ?_
  conv => whnf
  refine ⟨fun h1 => ?_, fun h1 => ?_⟩
  · have h1 : rightFields l = false := by simpa using h1
    conv => whnf
    exact ⟨[], _, _, _, rfl, rfl, rfl, by unfold withF; rw [h1]; exact nil_take, trivial⟩
  have h1 : rightFields l = true := by simpa using h1
  conv => whnf
  refine CallK.lent (f71 f hf.ok) rfl ?_
  conv => whnf
  refine ⟨fun h2 => ?_, fun h2 => ?_⟩
  · have h2 : fieldOk f = false := by simpa using h2
    conv => whnf
    exact ⟨[], _, _, _, rfl, rfl, rfl, by unfold withF; rw [h1, h2]; exact nil_take, trivial⟩
  have h2 : fieldOk f = true := by simpa using h2
  conv => whnf
  refine CallK.lent (f81 l f.place hl.ok) rfl ?_
  conv => whnf
  cases hp : placeIn l f.place with
  | some j =>
    refine ⟨fun h3 => ?_, fun h3 => ?_⟩
    · conv => whnf
      exact ⟨[], _, _, _, rfl, rfl, rfl, by unfold withF; rw [h1, h2, hp]; exact nil_take, trivial⟩
    · rw [iLe_f] at h3
      have h3 : ((j : Nat) : Int) < 0 := h3
      omega
  | none =>
    refine ⟨fun h3 => ?_, fun h3 => ?_⟩
    · rw [iLe_t] at h3
      have h3 : (0 : Int) ≤ -1 := h3
      omega
    conv => whnf
    have h16 : l.length ≤ 16 := by
      have := h1
      unfold rightFields at this
      rw [Bool.and_eq_true, iLe_t] at this
      omega
    refine ⟨fun h6 => ?_, fun h6 => ?_⟩
    · conv => whnf
      exact ⟨[], _, _, _, rfl, rfl, rfl, by
        unfold withF; rw [h1, h2, hp]
        show RepLe _ (encTake (if iLt 15 l.length = true then ([], 14) else (putIn l f, 0)))
        rw [if_pos (by rw [iLt_t]; rw [iEq_t] at h6; omega)]; exact nil_take, trivial⟩
    have hw : withF l f = (putIn l f, 0) := by
      unfold withF
      rw [h1, h2, hp]
      show (if iLt 15 l.length = true then ([], 14) else (putIn l f, 0)) = _
      rw [if_neg (by rw [iLt_t]; rw [iEq_f] at h6; omega)]
    have hs := put_pairs h1 hp
    clear h1 h2 h3 h6
    conv => whnf
    refine CallK.go [] (f27 l hl) rfl rfl rfl rfl rfl ?_
    conv => whnf
    refine CallK.go [] (f78 f hf) rfl rfl rfl rfl rfl ?_
    conv => whnf
    refine ⟨⟨show l.length + 1 ≤ 9223372036854775807 by omega, show (l.length + 1) * 96 ≤ 140737488355328 by omega⟩, ?_⟩
    conv => whnf
    refine ⟨rfl, ?_⟩
    conv => whnf
    refine CallK.go [28712] (GCall.blk1 (f97 (l ++ [f]) (putIn l f) (by simp) (by simp; omega) (put_perm l f) hs _) (rowSnoc l f (seven (PLe.refl _) (PLe.refl _) (PLe.refl _) (PLe.refl _) (PLe.refl _) (PLe.refl _) (PLe.refl _)))) rfl rfl rfl rfl rfl ?_
    conv => whnf
    exact ⟨[], _, _, _, rfl, rfl, rfl, by rw [hw]; exact RepLe.refl _, trivial⟩
end Go.Proofs.YtalpbdabeffnlaaGreat

/- A lens' places. -/
set_option linter.unusedVariables false
set_option linter.unusedSimpArgs false
namespace Go.Proofs.YtalpbdabeffnlaaGreat
open Go Go.Av
set_option maxRecDepth 100000
set_option maxHeartbeats 2000000

def encRefs (l : List SRef) : PV := .rs 3 l.length fun i => at_ .any (refCells (l.getD i noRef))
def twoOf (x : SLens) : List SRef := [{ x.place with name := x.name }, { x.place with name := x.other }]
def goesOf (x : SLens) : List SRef :=
  if !lensOk x || iEq x.kind 2 then [] else if iEq x.kind 3 then [x.field.place] else if iEq x.kind 9 then twoOf x else [x.place]
def comesOf (x : SLens) : List SRef :=
  if !lensOk x || iEq x.kind 3 then [] else if iEq x.kind 2 then [x.field.place] else if iEq x.kind 1 then [{ x.place with name := x.name }]
  else if iEq x.kind 4 then [{ x.place with group := noS }] else if iEq x.kind 5 then [{ x.place with group := x.name }] else if iEq x.kind 6 then twoOf x else [x.place]
theorem refs1 {r : SRef} {l : List SRef} (h : l = [r]) {f : Nat → Nat → PV} (hf : ∀ j, j < 3 → f 0 j = at_ .any (refCells r) j) : PLe (.rs 3 1 f) (encRefs l) := by
  subst h
  refine PLe.rows rfl fun i j hi hj => ?_
  have : i = 0 := by omega
  subst this
  exact hf j hj
theorem refs2 {r s : SRef} {l : List SRef} (h : l = [r, s]) {f : Nat → Nat → PV} (hf : ∀ j, j < 3 → f 0 j = at_ .any (refCells r) j) (hg : ∀ j, j < 3 → f 1 j = at_ .any (refCells s) j) : PLe (.rs 3 2 f) (encRefs l) := by
  subst h
  refine PLe.rows rfl fun i j hi hj => ?_
  have hi : i = 0 ∨ i = 1 := by omega
  rcases hi with rfl | rfl
  · exact hf j hj
  · exact hg j hj
theorem three {P : Nat → Prop} (h0 : P 0) (h1 : P 1) (h2 : P 2) : ∀ b, b < 3 → P b := by
  intro b hb
  have hb : b = 0 ∨ b = 1 ∨ b = 2 := by omega
  rcases hb with rfl | rfl | rfl <;> assumption
theorem nil_refs {l : List SRef} (h : l = []) : RepLe (.p (.val (.slice none 0 0))) (.p (encRefs l)) := by subst h; exact PLe.rep PLe.nil

theorem f104 (x : SLens) : PCall Tryz.prog 107 [encLens x] (.p (encRefs (twoOf x))) [] := by
  refine gcode hT hM Tryz.func107 rfl rfl (rv := [(2, none)]) rfl rfl rfl fun G hG => ?_
  conv => whnf
  refine ⟨rfl, ?_⟩
  conv => whnf
  refine ⟨rfl, ?_⟩
  conv => whnf
  exact ⟨[], _, _, _, rfl, rfl, rfl, PLe.rep (refs2 rfl (three rfl rfl rfl) (three rfl rfl rfl)), trivial⟩

theorem f51 (x : SLens) (hx : okLens x) : PCall Tryz.prog 52 [encLens x] (.p (encRefs (goesOf x))) [] := by
  refine gcode hT hM Tryz.func52 rfl rfl (rv := [(2, none)]) rfl rfl rfl fun G hG => ?_
  conv => whnf
  refine CallK.lent (f25 x hx) rfl ?_
  conv => whnf
  refine ⟨fun h1 => ?_, fun h1 => ?_⟩
  · conv => whnf
    exact ⟨[], _, _, _, rfl, rfl, rfl, nil_refs (by unfold goesOf; rw [h1]; rfl), trivial⟩
  conv => whnf
  refine ⟨fun h2 => ?_, fun h2 => ?_⟩
  · conv => whnf
    exact ⟨[], _, _, _, rfl, rfl, rfl, nil_refs (by unfold goesOf; rw [h1, h2]; rfl), trivial⟩
  conv => whnf
  refine ⟨fun h3 => ?_, fun h3 => ?_⟩
  · conv => whnf
    exact ⟨[], _, _, _, rfl, rfl, rfl, PLe.rep (refs1 (r := x.field.place) (by unfold goesOf; rw [h1, h2, h3]; rfl) (three rfl rfl rfl)), trivial⟩
  conv => whnf
  refine ⟨fun h4 => ?_, fun h4 => ?_⟩
  · conv => whnf
    refine CallK.go [] (f104 x) rfl rfl rfl rfl rfl ?_
    conv => whnf
    exact ⟨[], _, _, _, rfl, rfl, rfl, by rw [show goesOf x = twoOf x by unfold goesOf; rw [h1, h2, h3, h4]; rfl]; exact RepLe.refl _, trivial⟩
  conv => whnf
  exact ⟨[], _, _, _, rfl, rfl, rfl, PLe.rep (refs1 (r := x.place) (by unfold goesOf; rw [h1, h2, h3, h4]; rfl) (three rfl rfl rfl)), trivial⟩

theorem f52 (x : SLens) (hx : okLens x) : PCall Tryz.prog 55 [encLens x] (.p (encRefs (comesOf x))) [] := by
  refine gcode hT hM Tryz.func55 rfl rfl (rv := [(2, none)]) rfl rfl rfl fun G hG => ?_
  conv => whnf
  refine CallK.lent (f25 x hx) rfl ?_
  conv => whnf
  refine ⟨fun h1 => ?_, fun h1 => ?_⟩
  · conv => whnf
    exact ⟨[], _, _, _, rfl, rfl, rfl, nil_refs (by unfold comesOf; rw [h1]; rfl), trivial⟩
  conv => whnf
  refine ⟨fun h2 => ?_, fun h2 => ?_⟩
  · conv => whnf
    exact ⟨[], _, _, _, rfl, rfl, rfl, nil_refs (by unfold comesOf; rw [h1, h2]; rfl), trivial⟩
  conv => whnf
  refine ⟨fun h3 => ?_, fun h3 => ?_⟩
  · conv => whnf
    exact ⟨[], _, _, _, rfl, rfl, rfl, PLe.rep (refs1 (r := x.field.place) (by unfold comesOf; rw [h1, h2, h3]; rfl) (three rfl rfl rfl)), trivial⟩
  conv => whnf
  refine ⟨fun h4 => ?_, fun h4 => ?_⟩
  · conv => whnf
    exact ⟨[], _, _, _, rfl, rfl, rfl, PLe.rep (refs1 (r := { x.place with name := x.name }) (by unfold comesOf; rw [h1, h2, h3, h4]; rfl) (three rfl rfl rfl)), trivial⟩
  conv => whnf
  refine ⟨fun h5 => ?_, fun h5 => ?_⟩
  · conv => whnf
    exact ⟨[], _, _, _, rfl, rfl, rfl, PLe.rep (refs1 (r := { x.place with group := noS }) (by unfold comesOf; rw [h1, h2, h3, h4, h5]; rfl) (three rfl rfl rfl)), trivial⟩
  conv => whnf
  refine ⟨fun h6 => ?_, fun h6 => ?_⟩
  · conv => whnf
    exact ⟨[], _, _, _, rfl, rfl, rfl, PLe.rep (refs1 (r := { x.place with group := x.name }) (by unfold comesOf; rw [h1, h2, h3, h4, h5, h6]; rfl) (three rfl rfl rfl)), trivial⟩
  conv => whnf
  refine ⟨fun h7 => ?_, fun h7 => ?_⟩
  · conv => whnf
    refine CallK.go [] (f104 x) rfl rfl rfl rfl rfl ?_
    conv => whnf
    exact ⟨[], _, _, _, rfl, rfl, rfl, by rw [show comesOf x = twoOf x by unfold comesOf; rw [h1, h2, h3, h4, h5, h6, h7]; rfl]; exact RepLe.refl _, trivial⟩
  conv => whnf
  exact ⟨[], _, _, _, rfl, rfl, rfl, PLe.rep (refs1 (r := x.place) (by unfold comesOf; rw [h1, h2, h3, h4, h5, h6, h7]; rfl) (three rfl rfl rfl)), trivial⟩
end Go.Proofs.YtalpbdabeffnlaaGreat

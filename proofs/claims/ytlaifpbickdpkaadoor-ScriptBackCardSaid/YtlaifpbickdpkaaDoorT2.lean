/- What the program's functions compute, and that they compute it: one contract a function, written by gw.py (own work). -/
import Derived.Test.YtlaifpbickdpkaaDoorT1
namespace Go.Proofs.YtlaifpbickdpkaaDoor
open Go.RowKit
set_option linter.unusedVariables false
set_option linter.unusedSimpArgs false

structure ApiJob where
  Id : Int
  Key : (List UInt8)
  Body : (List UInt8)
  State : Int
  Tries : Int
  Token : Int
  Until : Int
  Point : Int
def KApiJob : Kind ApiJob where
  sz := 8
  R := fun _ _ x cs => cs = [.int .i64 x.Id, .string (bs x.Key), .string (bs x.Body), .int .i64 x.State, .int .i64 x.Tries, .int .i64 x.Token, .int .i64 x.Until, .int .i64 x.Point]
  len := by rintro w hw x cs rfl; rfl
  one := by
    rintro w hw x cs rfl u hu
    simp only [List.mem_cons, List.not_mem_nil, or_false] at hu
    rcases hu with rfl | rfl | rfl | rfl | rfl | rfl | rfl | rfl <;> first | rfl | exact Dy.one _
  ext := fun _ h => h
structure ApiQueue where
  Jobs : (List ApiJob)
  Last : Int
  Token : Int
def KApiQueue : Kind ApiQueue where
  sz := 3
  R := fun w hw x cs => ∃ v0, cs = [v0, .int .i64 x.Last, .int .i64 x.Token] ∧ Row KApiJob w hw v0 x.Jobs
  len := by rintro w hw x cs ⟨v0, rfl, h0⟩; rfl
  one := by
    rintro w hw x cs ⟨v0, rfl, h0⟩ u hu
    obtain ⟨A0, c0, e0⟩ := h0.slice
    simp only [List.mem_cons, List.not_mem_nil, or_false] at hu
    rcases hu with rfl | rfl | rfl <;> first | rfl | exact Dy.one _ | (simp only [e0]; rfl)
  ext := by
    rintro w hw w' hw' x cs e ⟨v0, rfl, h0⟩
    exact ⟨v0, rfl, h0.ext e⟩
structure ApiVault where
  Ledger : ApiLedger
  Queue : ApiQueue
def KApiVault : Kind ApiVault where
  sz := 9
  R := fun w hw x cs => ∃ v0 v1 v5 v6, cs = [v0, v1, .int .i64 x.Ledger.Half, .int .i64 x.Ledger.Gen, .int .i64 x.Ledger.Used, v5, v6, .int .i64 x.Queue.Last, .int .i64 x.Queue.Token] ∧ Row Kstr w hw v0 x.Ledger.Disk.Sectors ∧ Row KApiWrite w hw v1 x.Ledger.Disk.Dirty ∧ Row Kstr w hw v5 x.Ledger.Entries ∧ Row KApiJob w hw v6 x.Queue.Jobs
  len := by rintro w hw x cs ⟨v0, v1, v5, v6, rfl, h0, h1, h5, h6⟩; rfl
  one := by
    rintro w hw x cs ⟨v0, v1, v5, v6, rfl, h0, h1, h5, h6⟩ u hu
    obtain ⟨A0, c0, e0⟩ := h0.slice
    obtain ⟨A1, c1, e1⟩ := h1.slice
    obtain ⟨A5, c5, e5⟩ := h5.slice
    obtain ⟨A6, c6, e6⟩ := h6.slice
    simp only [List.mem_cons, List.not_mem_nil, or_false] at hu
    rcases hu with rfl | rfl | rfl | rfl | rfl | rfl | rfl | rfl | rfl <;> first | rfl | exact Dy.one _ | (simp only [e0, e1, e5, e6]; rfl)
  ext := by
    rintro w hw w' hw' x cs e ⟨v0, v1, v5, v6, rfl, h0, h1, h5, h6⟩
    exact ⟨v0, v1, v5, v6, rfl, h0.ext e, h1.ext e, h5.ext e, h6.ext e⟩
structure ApiTag where
  Name : (List UInt8)
  Digest : (List UInt8)
def KApiTag : Kind ApiTag where
  sz := 2
  R := fun _ _ x cs => cs = [.string (bs x.Name), .string (bs x.Digest)]
  len := by rintro w hw x cs rfl; rfl
  one := by
    rintro w hw x cs rfl u hu
    simp only [List.mem_cons, List.not_mem_nil, or_false] at hu
    rcases hu with rfl | rfl <;> first | rfl | exact Dy.one _
  ext := fun _ h => h
structure ApiRepo where
  Name : (List UInt8)
  Blobs : (List (List UInt8))
  Manifests : (List (List UInt8))
  Tags : (List ApiTag)
def KApiRepo : Kind ApiRepo where
  sz := 4
  R := fun w hw x cs => ∃ v1 v2 v3, cs = [.string (bs x.Name), v1, v2, v3] ∧ Row Kstr w hw v1 x.Blobs ∧ Row Kstr w hw v2 x.Manifests ∧ Row KApiTag w hw v3 x.Tags
  len := by rintro w hw x cs ⟨v1, v2, v3, rfl, h1, h2, h3⟩; rfl
  one := by
    rintro w hw x cs ⟨v1, v2, v3, rfl, h1, h2, h3⟩ u hu
    obtain ⟨A1, c1, e1⟩ := h1.slice
    obtain ⟨A2, c2, e2⟩ := h2.slice
    obtain ⟨A3, c3, e3⟩ := h3.slice
    simp only [List.mem_cons, List.not_mem_nil, or_false] at hu
    rcases hu with rfl | rfl | rfl | rfl <;> first | rfl | exact Dy.one _ | (simp only [e1, e2, e3]; rfl)
  ext := by
    rintro w hw w' hw' x cs e ⟨v1, v2, v3, rfl, h1, h2, h3⟩
    exact ⟨v1, v2, v3, rfl, h1.ext e, h2.ext e, h3.ext e⟩
structure ApiRegistry where
  Blobs : ApiBlobs
  Repos : (List ApiRepo)
def KApiRegistry : Kind ApiRegistry where
  sz := 5
  R := fun w hw x cs => ∃ v0 v2 v4, cs = [v0, .int .i64 x.Blobs.Quota, v2, .int .i64 x.Blobs.Last, v4] ∧ Row KApiObject w hw v0 x.Blobs.Objects ∧ Row KApiUpload w hw v2 x.Blobs.Uploads ∧ Row KApiRepo w hw v4 x.Repos
  len := by rintro w hw x cs ⟨v0, v2, v4, rfl, h0, h2, h4⟩; rfl
  one := by
    rintro w hw x cs ⟨v0, v2, v4, rfl, h0, h2, h4⟩ u hu
    obtain ⟨A0, c0, e0⟩ := h0.slice
    obtain ⟨A2, c2, e2⟩ := h2.slice
    obtain ⟨A4, c4, e4⟩ := h4.slice
    simp only [List.mem_cons, List.not_mem_nil, or_false] at hu
    rcases hu with rfl | rfl | rfl | rfl | rfl <;> first | rfl | exact Dy.one _ | (simp only [e0, e2, e4]; rfl)
  ext := by
    rintro w hw w' hw' x cs e ⟨v0, v2, v4, rfl, h0, h2, h4⟩
    exact ⟨v0, v2, v4, rfl, h0.ext e, h2.ext e, h4.ext e⟩
structure S65 where
  e0 : ApiRegistry
  e1 : ApiRegistry
def KS65 : Kind S65 where
  sz := 10
  R := fun w hw x cs => ∃ v0 v2 v4 v5 v7 v9, cs = [v0, .int .i64 x.e0.Blobs.Quota, v2, .int .i64 x.e0.Blobs.Last, v4, v5, .int .i64 x.e1.Blobs.Quota, v7, .int .i64 x.e1.Blobs.Last, v9] ∧ Row KApiObject w hw v0 x.e0.Blobs.Objects ∧ Row KApiUpload w hw v2 x.e0.Blobs.Uploads ∧ Row KApiRepo w hw v4 x.e0.Repos ∧ Row KApiObject w hw v5 x.e1.Blobs.Objects ∧ Row KApiUpload w hw v7 x.e1.Blobs.Uploads ∧ Row KApiRepo w hw v9 x.e1.Repos
  len := by rintro w hw x cs ⟨v0, v2, v4, v5, v7, v9, rfl, h0, h2, h4, h5, h7, h9⟩; rfl
  one := by
    rintro w hw x cs ⟨v0, v2, v4, v5, v7, v9, rfl, h0, h2, h4, h5, h7, h9⟩ u hu
    obtain ⟨A0, c0, e0⟩ := h0.slice
    obtain ⟨A2, c2, e2⟩ := h2.slice
    obtain ⟨A4, c4, e4⟩ := h4.slice
    obtain ⟨A5, c5, e5⟩ := h5.slice
    obtain ⟨A7, c7, e7⟩ := h7.slice
    obtain ⟨A9, c9, e9⟩ := h9.slice
    simp only [List.mem_cons, List.not_mem_nil, or_false] at hu
    rcases hu with rfl | rfl | rfl | rfl | rfl | rfl | rfl | rfl | rfl | rfl <;> first | rfl | exact Dy.one _ | (simp only [e0, e2, e4, e5, e7, e9]; rfl)
  ext := by
    rintro w hw w' hw' x cs e ⟨v0, v2, v4, v5, v7, v9, rfl, h0, h2, h4, h5, h7, h9⟩
    exact ⟨v0, v2, v4, v5, v7, v9, rfl, h0.ext e, h2.ext e, h4.ext e, h5.ext e, h7.ext e, h9.ext e⟩
structure ApiRule where
  Id : Int
  From : Int
  Repos : (List (List UInt8))
  Tags : (List (List UInt8))
  Prefix : (List UInt8)
  Override : Bool
  Delete : Bool
  On : Bool
  Cron : (List UInt8)
def KApiRule : Kind ApiRule where
  sz := 9
  R := fun w hw x cs => ∃ v2 v3, cs = [.int .i64 x.Id, .int .i64 x.From, v2, v3, .string (bs x.Prefix), .bool x.Override, .bool x.Delete, .bool x.On, .string (bs x.Cron)] ∧ Row Kstr w hw v2 x.Repos ∧ Row Kstr w hw v3 x.Tags
  len := by rintro w hw x cs ⟨v2, v3, rfl, h2, h3⟩; rfl
  one := by
    rintro w hw x cs ⟨v2, v3, rfl, h2, h3⟩ u hu
    obtain ⟨A2, c2, e2⟩ := h2.slice
    obtain ⟨A3, c3, e3⟩ := h3.slice
    simp only [List.mem_cons, List.not_mem_nil, or_false] at hu
    rcases hu with rfl | rfl | rfl | rfl | rfl | rfl | rfl | rfl | rfl <;> first | rfl | exact Dy.one _ | (simp only [e2, e3]; rfl)
  ext := by
    rintro w hw w' hw' x cs e ⟨v2, v3, rfl, h2, h3⟩
    exact ⟨v2, v3, rfl, h2.ext e, h3.ext e⟩
structure ApiTask where
  Rule : Int
  From : Int
  Repo : (List UInt8)
  Tag : (List UInt8)
  To : (List UInt8)
  Override : Bool
  Delete : Bool
def KApiTask : Kind ApiTask where
  sz := 7
  R := fun _ _ x cs => cs = [.int .i64 x.Rule, .int .i64 x.From, .string (bs x.Repo), .string (bs x.Tag), .string (bs x.To), .bool x.Override, .bool x.Delete]
  len := by rintro w hw x cs rfl; rfl
  one := by
    rintro w hw x cs rfl u hu
    simp only [List.mem_cons, List.not_mem_nil, or_false] at hu
    rcases hu with rfl | rfl | rfl | rfl | rfl | rfl | rfl <;> first | rfl | exact Dy.one _
  ext := fun _ h => h
structure ApiWalk where
  Manifests : (List (List UInt8))
  Blobs : (List (List UInt8))
def KApiWalk : Kind ApiWalk where
  sz := 2
  R := fun w hw x cs => ∃ v0 v1, cs = [v0, v1] ∧ Row Kstr w hw v0 x.Manifests ∧ Row Kstr w hw v1 x.Blobs
  len := by rintro w hw x cs ⟨v0, v1, rfl, h0, h1⟩; rfl
  one := by
    rintro w hw x cs ⟨v0, v1, rfl, h0, h1⟩ u hu
    obtain ⟨A0, c0, e0⟩ := h0.slice
    obtain ⟨A1, c1, e1⟩ := h1.slice
    simp only [List.mem_cons, List.not_mem_nil, or_false] at hu
    rcases hu with rfl | rfl <;> first | rfl | exact Dy.one _ | (simp only [e0, e1]; rfl)
  ext := by
    rintro w hw w' hw' x cs e ⟨v0, v1, rfl, h0, h1⟩
    exact ⟨v0, v1, rfl, h0.ext e, h1.ext e⟩
structure ApiWork where
  Task : ApiTask
  Point : Int
  Digest : (List UInt8)
  Walk : ApiWalk
  Upload : Int
  Ends : Bool
def KApiWork : Kind ApiWork where
  sz := 13
  R := fun w hw x cs => ∃ v9 v10, cs = [.int .i64 x.Task.Rule, .int .i64 x.Task.From, .string (bs x.Task.Repo), .string (bs x.Task.Tag), .string (bs x.Task.To), .bool x.Task.Override, .bool x.Task.Delete, .int .i64 x.Point, .string (bs x.Digest), v9, v10, .int .i64 x.Upload, .bool x.Ends] ∧ Row Kstr w hw v9 x.Walk.Manifests ∧ Row Kstr w hw v10 x.Walk.Blobs
  len := by rintro w hw x cs ⟨v9, v10, rfl, h9, h10⟩; rfl
  one := by
    rintro w hw x cs ⟨v9, v10, rfl, h9, h10⟩ u hu
    obtain ⟨A9, c9, e9⟩ := h9.slice
    obtain ⟨A10, c10, e10⟩ := h10.slice
    simp only [List.mem_cons, List.not_mem_nil, or_false] at hu
    rcases hu with rfl | rfl | rfl | rfl | rfl | rfl | rfl | rfl | rfl | rfl | rfl | rfl | rfl <;> first | rfl | exact Dy.one _ | (simp only [e9, e10]; rfl)
  ext := by
    rintro w hw w' hw' x cs e ⟨v9, v10, rfl, h9, h10⟩
    exact ⟨v9, v10, rfl, h9.ext e, h10.ext e⟩
structure ApiHand where
  Busy : Bool
  Job : ApiJob
  Work : ApiWork
def KApiHand : Kind ApiHand where
  sz := 22
  R := fun w hw x cs => ∃ v18 v19, cs = [.bool x.Busy, .int .i64 x.Job.Id, .string (bs x.Job.Key), .string (bs x.Job.Body), .int .i64 x.Job.State, .int .i64 x.Job.Tries, .int .i64 x.Job.Token, .int .i64 x.Job.Until, .int .i64 x.Job.Point, .int .i64 x.Work.Task.Rule, .int .i64 x.Work.Task.From, .string (bs x.Work.Task.Repo), .string (bs x.Work.Task.Tag), .string (bs x.Work.Task.To), .bool x.Work.Task.Override, .bool x.Work.Task.Delete, .int .i64 x.Work.Point, .string (bs x.Work.Digest), v18, v19, .int .i64 x.Work.Upload, .bool x.Work.Ends] ∧ Row Kstr w hw v18 x.Work.Walk.Manifests ∧ Row Kstr w hw v19 x.Work.Walk.Blobs
  len := by rintro w hw x cs ⟨v18, v19, rfl, h18, h19⟩; rfl
  one := by
    rintro w hw x cs ⟨v18, v19, rfl, h18, h19⟩ u hu
    obtain ⟨A18, c18, e18⟩ := h18.slice
    obtain ⟨A19, c19, e19⟩ := h19.slice
    simp only [List.mem_cons, List.not_mem_nil, or_false] at hu
    rcases hu with rfl | rfl | rfl | rfl | rfl | rfl | rfl | rfl | rfl | rfl | rfl | rfl | rfl | rfl | rfl | rfl | rfl | rfl | rfl | rfl | rfl | rfl <;> first | rfl | exact Dy.one _ | (simp only [e18, e19]; rfl)
  ext := by
    rintro w hw w' hw' x cs e ⟨v18, v19, rfl, h18, h19⟩
    exact ⟨v18, v19, rfl, h18.ext e, h19.ext e⟩
structure S87 where
  e0 : ApiHand
  e1 : ApiHand
def KS87 : Kind S87 where
  sz := 44
  R := fun w hw x cs => ∃ v18 v19 v40 v41, cs = [.bool x.e0.Busy, .int .i64 x.e0.Job.Id, .string (bs x.e0.Job.Key), .string (bs x.e0.Job.Body), .int .i64 x.e0.Job.State, .int .i64 x.e0.Job.Tries, .int .i64 x.e0.Job.Token, .int .i64 x.e0.Job.Until, .int .i64 x.e0.Job.Point, .int .i64 x.e0.Work.Task.Rule, .int .i64 x.e0.Work.Task.From, .string (bs x.e0.Work.Task.Repo), .string (bs x.e0.Work.Task.Tag), .string (bs x.e0.Work.Task.To), .bool x.e0.Work.Task.Override, .bool x.e0.Work.Task.Delete, .int .i64 x.e0.Work.Point, .string (bs x.e0.Work.Digest), v18, v19, .int .i64 x.e0.Work.Upload, .bool x.e0.Work.Ends, .bool x.e1.Busy, .int .i64 x.e1.Job.Id, .string (bs x.e1.Job.Key), .string (bs x.e1.Job.Body), .int .i64 x.e1.Job.State, .int .i64 x.e1.Job.Tries, .int .i64 x.e1.Job.Token, .int .i64 x.e1.Job.Until, .int .i64 x.e1.Job.Point, .int .i64 x.e1.Work.Task.Rule, .int .i64 x.e1.Work.Task.From, .string (bs x.e1.Work.Task.Repo), .string (bs x.e1.Work.Task.Tag), .string (bs x.e1.Work.Task.To), .bool x.e1.Work.Task.Override, .bool x.e1.Work.Task.Delete, .int .i64 x.e1.Work.Point, .string (bs x.e1.Work.Digest), v40, v41, .int .i64 x.e1.Work.Upload, .bool x.e1.Work.Ends] ∧ Row Kstr w hw v18 x.e0.Work.Walk.Manifests ∧ Row Kstr w hw v19 x.e0.Work.Walk.Blobs ∧ Row Kstr w hw v40 x.e1.Work.Walk.Manifests ∧ Row Kstr w hw v41 x.e1.Work.Walk.Blobs
  len := by rintro w hw x cs ⟨v18, v19, v40, v41, rfl, h18, h19, h40, h41⟩; rfl
  one := by
    rintro w hw x cs ⟨v18, v19, v40, v41, rfl, h18, h19, h40, h41⟩ u hu
    obtain ⟨A18, c18, e18⟩ := h18.slice
    obtain ⟨A19, c19, e19⟩ := h19.slice
    obtain ⟨A40, c40, e40⟩ := h40.slice
    obtain ⟨A41, c41, e41⟩ := h41.slice
    simp only [List.mem_cons, List.not_mem_nil, or_false] at hu
    rcases hu with rfl | rfl | rfl | rfl | rfl | rfl | rfl | rfl | rfl | rfl | rfl | rfl | rfl | rfl | rfl | rfl | rfl | rfl | rfl | rfl | rfl | rfl | rfl | rfl | rfl | rfl | rfl | rfl | rfl | rfl | rfl | rfl | rfl | rfl | rfl | rfl | rfl | rfl | rfl | rfl | rfl | rfl | rfl | rfl <;> first | rfl | exact Dy.one _ | (simp only [e18, e19, e40, e41]; rfl)
  ext := by
    rintro w hw w' hw' x cs e ⟨v18, v19, v40, v41, rfl, h18, h19, h40, h41⟩
    exact ⟨v18, v19, v40, v41, rfl, h18.ext e, h19.ext e, h40.ext e, h41.ext e⟩
structure ApiWorld where
  Regs : S65
  Vault : ApiVault
  Rules : (List ApiRule)
  Hands : S87
  Now : Int
def KApiWorld : Kind ApiWorld where
  sz := 65
  R := fun w hw x cs => ∃ v0 v2 v4 v5 v7 v9 v10 v11 v15 v16 v19 v38 v39 v60 v61, cs = [v0, .int .i64 x.Regs.e0.Blobs.Quota, v2, .int .i64 x.Regs.e0.Blobs.Last, v4, v5, .int .i64 x.Regs.e1.Blobs.Quota, v7, .int .i64 x.Regs.e1.Blobs.Last, v9, v10, v11, .int .i64 x.Vault.Ledger.Half, .int .i64 x.Vault.Ledger.Gen, .int .i64 x.Vault.Ledger.Used, v15, v16, .int .i64 x.Vault.Queue.Last, .int .i64 x.Vault.Queue.Token, v19, .bool x.Hands.e0.Busy, .int .i64 x.Hands.e0.Job.Id, .string (bs x.Hands.e0.Job.Key), .string (bs x.Hands.e0.Job.Body), .int .i64 x.Hands.e0.Job.State, .int .i64 x.Hands.e0.Job.Tries, .int .i64 x.Hands.e0.Job.Token, .int .i64 x.Hands.e0.Job.Until, .int .i64 x.Hands.e0.Job.Point, .int .i64 x.Hands.e0.Work.Task.Rule, .int .i64 x.Hands.e0.Work.Task.From, .string (bs x.Hands.e0.Work.Task.Repo), .string (bs x.Hands.e0.Work.Task.Tag), .string (bs x.Hands.e0.Work.Task.To), .bool x.Hands.e0.Work.Task.Override, .bool x.Hands.e0.Work.Task.Delete, .int .i64 x.Hands.e0.Work.Point, .string (bs x.Hands.e0.Work.Digest), v38, v39, .int .i64 x.Hands.e0.Work.Upload, .bool x.Hands.e0.Work.Ends, .bool x.Hands.e1.Busy, .int .i64 x.Hands.e1.Job.Id, .string (bs x.Hands.e1.Job.Key), .string (bs x.Hands.e1.Job.Body), .int .i64 x.Hands.e1.Job.State, .int .i64 x.Hands.e1.Job.Tries, .int .i64 x.Hands.e1.Job.Token, .int .i64 x.Hands.e1.Job.Until, .int .i64 x.Hands.e1.Job.Point, .int .i64 x.Hands.e1.Work.Task.Rule, .int .i64 x.Hands.e1.Work.Task.From, .string (bs x.Hands.e1.Work.Task.Repo), .string (bs x.Hands.e1.Work.Task.Tag), .string (bs x.Hands.e1.Work.Task.To), .bool x.Hands.e1.Work.Task.Override, .bool x.Hands.e1.Work.Task.Delete, .int .i64 x.Hands.e1.Work.Point, .string (bs x.Hands.e1.Work.Digest), v60, v61, .int .i64 x.Hands.e1.Work.Upload, .bool x.Hands.e1.Work.Ends, .int .i64 x.Now] ∧ Row KApiObject w hw v0 x.Regs.e0.Blobs.Objects ∧ Row KApiUpload w hw v2 x.Regs.e0.Blobs.Uploads ∧ Row KApiRepo w hw v4 x.Regs.e0.Repos ∧ Row KApiObject w hw v5 x.Regs.e1.Blobs.Objects ∧ Row KApiUpload w hw v7 x.Regs.e1.Blobs.Uploads ∧ Row KApiRepo w hw v9 x.Regs.e1.Repos ∧ Row Kstr w hw v10 x.Vault.Ledger.Disk.Sectors ∧ Row KApiWrite w hw v11 x.Vault.Ledger.Disk.Dirty ∧ Row Kstr w hw v15 x.Vault.Ledger.Entries ∧ Row KApiJob w hw v16 x.Vault.Queue.Jobs ∧ Row KApiRule w hw v19 x.Rules ∧ Row Kstr w hw v38 x.Hands.e0.Work.Walk.Manifests ∧ Row Kstr w hw v39 x.Hands.e0.Work.Walk.Blobs ∧ Row Kstr w hw v60 x.Hands.e1.Work.Walk.Manifests ∧ Row Kstr w hw v61 x.Hands.e1.Work.Walk.Blobs
  len := by rintro w hw x cs ⟨v0, v2, v4, v5, v7, v9, v10, v11, v15, v16, v19, v38, v39, v60, v61, rfl, h0, h2, h4, h5, h7, h9, h10, h11, h15, h16, h19, h38, h39, h60, h61⟩; rfl
  one := by
    rintro w hw x cs ⟨v0, v2, v4, v5, v7, v9, v10, v11, v15, v16, v19, v38, v39, v60, v61, rfl, h0, h2, h4, h5, h7, h9, h10, h11, h15, h16, h19, h38, h39, h60, h61⟩ u hu
    obtain ⟨A0, c0, e0⟩ := h0.slice
    obtain ⟨A2, c2, e2⟩ := h2.slice
    obtain ⟨A4, c4, e4⟩ := h4.slice
    obtain ⟨A5, c5, e5⟩ := h5.slice
    obtain ⟨A7, c7, e7⟩ := h7.slice
    obtain ⟨A9, c9, e9⟩ := h9.slice
    obtain ⟨A10, c10, e10⟩ := h10.slice
    obtain ⟨A11, c11, e11⟩ := h11.slice
    obtain ⟨A15, c15, e15⟩ := h15.slice
    obtain ⟨A16, c16, e16⟩ := h16.slice
    obtain ⟨A19, c19, e19⟩ := h19.slice
    obtain ⟨A38, c38, e38⟩ := h38.slice
    obtain ⟨A39, c39, e39⟩ := h39.slice
    obtain ⟨A60, c60, e60⟩ := h60.slice
    obtain ⟨A61, c61, e61⟩ := h61.slice
    simp only [List.mem_cons, List.not_mem_nil, or_false] at hu
    rcases hu with rfl | rfl | rfl | rfl | rfl | rfl | rfl | rfl | rfl | rfl | rfl | rfl | rfl | rfl | rfl | rfl | rfl | rfl | rfl | rfl | rfl | rfl | rfl | rfl | rfl | rfl | rfl | rfl | rfl | rfl | rfl | rfl | rfl | rfl | rfl | rfl | rfl | rfl | rfl | rfl | rfl | rfl | rfl | rfl | rfl | rfl | rfl | rfl | rfl | rfl | rfl | rfl | rfl | rfl | rfl | rfl | rfl | rfl | rfl | rfl | rfl | rfl | rfl | rfl | rfl <;> first | rfl | exact Dy.one _ | (simp only [e0, e2, e4, e5, e7, e9, e10, e11, e15, e16, e19, e38, e39, e60, e61]; rfl)
  ext := by
    rintro w hw w' hw' x cs e ⟨v0, v2, v4, v5, v7, v9, v10, v11, v15, v16, v19, v38, v39, v60, v61, rfl, h0, h2, h4, h5, h7, h9, h10, h11, h15, h16, h19, h38, h39, h60, h61⟩
    exact ⟨v0, v2, v4, v5, v7, v9, v10, v11, v15, v16, v19, v38, v39, v60, v61, rfl, h0.ext e, h2.ext e, h4.ext e, h5.ext e, h7.ext e, h9.ext e, h10.ext e, h11.ext e, h15.ext e, h16.ext e, h19.ext e, h38.ext e, h39.ext e, h60.ext e, h61.ext e⟩
structure ScriptShape where
  word : (List UInt8)
  nums : Int
  texts : Int
def KScriptShape : Kind ScriptShape where
  sz := 3
  R := fun _ _ x cs => cs = [.string (bs x.word), .int .i64 x.nums, .int .i64 x.texts]
  len := by rintro w hw x cs rfl; rfl
  one := by
    rintro w hw x cs rfl u hu
    simp only [List.mem_cons, List.not_mem_nil, or_false] at hu
    rcases hu with rfl | rfl | rfl <;> first | rfl | exact Dy.one _
  ext := fun _ h => h
theorem bod10 : Bod Tryd.prog 10 := fun _ _ => by kernel_rfl
theorem bod11 : Bod Tryd.prog 11 := fun _ _ => by kernel_rfl
theorem bod16 : Bod Tryd.prog 16 := fun _ _ => by kernel_rfl
theorem bod17 : Bod Tryd.prog 17 := fun _ _ => by kernel_rfl
theorem bod18 : Bod Tryd.prog 18 := fun _ _ => by kernel_rfl
theorem bod19 : Bod Tryd.prog 19 := fun _ _ => by kernel_rfl
theorem bod20 : Bod Tryd.prog 20 := fun _ _ => by kernel_rfl
theorem bod21 : Bod Tryd.prog 21 := fun _ _ => by kernel_rfl
theorem bod26 : Bod Tryd.prog 26 := fun _ _ => by kernel_rfl
theorem bod27 : Bod Tryd.prog 27 := fun _ _ => by kernel_rfl
theorem bod28 : Bod Tryd.prog 28 := fun _ _ => by kernel_rfl
theorem bod29 : Bod Tryd.prog 29 := fun _ _ => by kernel_rfl
theorem bod31 : Bod Tryd.prog 31 := fun _ _ => by kernel_rfl
theorem bod32 : Bod Tryd.prog 32 := fun _ _ => by kernel_rfl
theorem bod33 : Bod Tryd.prog 33 := fun _ _ => by kernel_rfl
theorem bod38 : Bod Tryd.prog 38 := fun _ _ => by kernel_rfl
theorem bod39 : Bod Tryd.prog 39 := fun _ _ => by kernel_rfl
theorem bod40 : Bod Tryd.prog 40 := fun _ _ => by kernel_rfl
theorem bod52 : Bod Tryd.prog 52 := fun _ _ => by kernel_rfl
theorem bod60 : Bod Tryd.prog 60 := fun _ _ => by kernel_rfl
theorem bod62 : Bod Tryd.prog 62 := fun _ _ => by kernel_rfl
theorem bod9 : Bod Tryd.prog 9 := fun _ _ => by kernel_rfl
theorem fdv41_0 (x0 x1 x2 : Value) (w : World) : (Instr.field 41 (.agg #[x0, x1, x2]) 0).run Tryd.prog w = .ok (x0) w := by kernel_rfl
theorem fld41_1 : Fld Tryd.prog 41 1 1 := fun _ _ _ => by kernel_rfl
theorem fld41_2 : Fld Tryd.prog 41 2 2 := fun _ _ _ => by kernel_rfl
theorem ty101 : Ty Tryd.prog 101 2 32 true (.agg #[.pointer none, .slice none 0 0]) := ⟨by kernel_rfl, by kernel_rfl⟩
theorem ty41 : Ty Tryd.prog 41 3 32 true (.agg #[.string ⟨#[]⟩, .int .i64 0, .int .i64 0]) := ⟨by kernel_rfl, by kernel_rfl⟩
theorem ty64 : Ty Tryd.prog 64 5 88 true (.agg #[.slice none 0 0, .int .i64 0, .slice none 0 0, .int .i64 0, .slice none 0 0]) := ⟨by kernel_rfl, by kernel_rfl⟩
theorem ty75 : Ty Tryd.prog 75 9 136 true (.agg #[.slice none 0 0, .slice none 0 0, .int .i64 0, .int .i64 0, .int .i64 0, .slice none 0 0, .slice none 0 0, .int .i64 0, .int .i64 0]) := ⟨by kernel_rfl, by kernel_rfl⟩
theorem ty89 : Ty Tryd.prog 89 65 840 true (.agg #[.slice none 0 0, .int .i64 0, .slice none 0 0, .int .i64 0, .slice none 0 0, .slice none 0 0, .int .i64 0, .slice none 0 0, .int .i64 0, .slice none 0 0, .slice none 0 0, .slice none 0 0, .int .i64 0, .int .i64 0, .int .i64 0, .slice none 0 0, .slice none 0 0, .int .i64 0, .int .i64 0, .slice none 0 0, .bool false, .int .i64 0, .string ⟨#[]⟩, .string ⟨#[]⟩, .int .i64 0, .int .i64 0, .int .i64 0, .int .i64 0, .int .i64 0, .int .i64 0, .int .i64 0, .string ⟨#[]⟩, .string ⟨#[]⟩, .string ⟨#[]⟩, .bool false, .bool false, .int .i64 0, .string ⟨#[]⟩, .slice none 0 0, .slice none 0 0, .int .i64 0, .bool false, .bool false, .int .i64 0, .string ⟨#[]⟩, .string ⟨#[]⟩, .int .i64 0, .int .i64 0, .int .i64 0, .int .i64 0, .int .i64 0, .int .i64 0, .int .i64 0, .string ⟨#[]⟩, .string ⟨#[]⟩, .string ⟨#[]⟩, .bool false, .bool false, .int .i64 0, .string ⟨#[]⟩, .slice none 0 0, .slice none 0 0, .int .i64 0, .bool false, .int .i64 0]) := ⟨by kernel_rfl, by kernel_rfl⟩
/-! ### consignor/ledger.Format: function 52 -/
def ledger_Format.f (k : Nat) (a0 : Int) : Option (ApiLedger × Int) := (disk_New.f k a0).bind fun t7 => (if t7.1.Sectors = [] then (if (t7.2 != 0) = true then (some ((⟨(⟨[], []⟩ : ApiDisk), 0, 0, 0, []⟩ : ApiLedger), t7.2)) else ((ledger_head.f k 1 0).bind fun t46 => none)) else (if (t7.2 != 0) = true then (some ((⟨(⟨[], []⟩ : ApiDisk), 0, 0, 0, []⟩ : ApiLedger), t7.2)) else ((ledger_head.f k 1 0).bind fun t84 => (if (0 : Int) ≤ 0 ∧ 0 < (t7.1.Sectors.length : Int) then ((ledger_Open.f k (⟨t7.1.Sectors.set (Int.toNat 0) t84, t7.1.Dirty⟩ : ApiDisk)).bind fun t237 => (some (t237.1, t237.2))) else none))))
set_option maxHeartbeats 1000000 in
theorem ledger_Format.ok (k : Nat) {w0 : World} {hw0 : Hw} (wf : Hwf w0 hw0) (a0 : Int) (r : (ApiLedger × Int)) (h : ledger_Format.f k a0 = some r) :
    Calls Tryd.prog 52 #[.int .i64 a0] w0 fun e w' => ∃ (v0_0 : Value) (v0_1 : Value) (v0_5 : Value) (hw' : Hw), e = .returned (.tuple #[.agg #[v0_0, v0_1, .int .i64 r.1.Half, .int .i64 r.1.Gen, .int .i64 r.1.Used, v0_5], .int .i64 r.2]) ∧ Stp none w0 hw0 w' hw' ∧ Row Kstr w' hw' v0_0 r.1.Disk.Sectors ∧ Row KApiWrite w' hw' v0_1 r.1.Disk.Dirty ∧ Row Kstr w' hw' v0_5 r.1.Entries := by
  have fr0 := Stp.refl none (w := w0) (hw := hw0) wf
  unfold ledger_Format.f at h
  refine enter (n := 23) Tryd.func52 rfl rfl (Nat.le_of_ble_eq_true rfl) ?_
  refine wc_seq ?_
  refine wc_region ?_
  refine wl_alloc fr0.wf fr0.g.size ty70 [.slice none 0 0, .slice none 0 0, .int .i64 0, .int .i64 0, .int .i64 0, .slice none 0 0] rfl ?_
  intro b1 w2 s3 B4 g5
  have fr6 := fr0.then0 s3
  refine wl_assign (.int .i64 0) rfl ?_
  refine wl_nil ?_
  refine qn ?_
  refine wc_seq ?_
  refine wc_region ?_
  refine wl_move (.int .i64 a0) rfl ?_
  obtain ⟨t7, h8, h⟩ := Option.bind_eq_some_iff.1 h
  refine wl_call [.int .i64 a0] bod60 (mc rfl (mn _)) (disk_New.ok k fr6.wf a0 _ h8) ?_
  rintro e9 w10 ⟨v13, v15, hw11, rfl, s12, f14, f16⟩
  refine ⟨_, rfl, ?_⟩
  have fr17 := fr6.then0 s12
  by_cases c18 : t7.1.Sectors = []
  · rw [if_pos c18] at h
    cases f14.1 c18
    have f19 : Row Kstr w10 hw11 (.slice none 0 0) t7.1.Sectors := row_nil_of c18
    refine wl_move (.tuple #[.agg #[.slice none 0 0, v15], .int .i64 t7.2]) rfl ?_
    refine wl_extract (vs := [.agg #[.slice none 0 0, v15], .int .i64 t7.2]) (.agg #[.slice none 0 0, v15]) rfl rfl ?_
    refine wl_extract (vs := [.agg #[.slice none 0 0, v15], .int .i64 t7.2]) (.int .i64 t7.2) rfl rfl ?_
    refine wl_alloc fr17.wf fr17.g.size ty68 [.slice none 0 0, .slice none 0 0] rfl ?_
    intro b20 w21 s22 B23 g24
    have B26 := (B4.step0 s12)
    have n25 : b1 ≠ b20 := B26.ne g24
    have fr27 := fr17.then0 s22
    have f31 := f16.ext (s22.ext)
    refine wl_store B23 fr27.wf ty68 rfl [.slice none 0 0, v15] (cells_of (v := (.agg #[.slice none 0 0, v15])) rfl rfl) rfl (Nat.le_of_ble_eq_true rfl) (one_all [.slice none 0 0, v15] (by simp only [List.all_cons, List.all_nil, Bool.and_true, Bool.true_and, row_one f31] <;> rfl)) [.slice none 0 0, v15] rfl ?_
    intro w28 s29 B30
    have fr32 := fr27.then s29 (fun _ e => (Option.some.inj e ▸ B23.new))
    refine wl_assign (.int .i64 t7.2) rfl ?_
    refine wl_nil ?_
    refine qn ?_
    refine wc_seq ?_
    refine wc_seq ?_
    refine wc_region ?_
    refine wl_move (.int .i64 t7.2) rfl ?_
    refine wl_neq rfl rfl ?_
    refine wl_nil ?_
    refine qn ?_
    by_cases c33 : (t7.2 != 0) = true
    · replace h := (if_pos c33).symm.trans h
      refine wc_then rfl c33 ?_
      refine wc_seq ?_
      refine wc_region ?_
      have hb34 : ∀ w, (Instr.build 70 #[]).run Tryd.prog w = .ok (.agg (List.toArray [.slice none 0 0, .slice none 0 0, .int .i64 0, .int .i64 0, .int .i64 0, .slice none 0 0])) w := by intro  _; kernel_rfl
      refine wl_build [.slice none 0 0, .slice none 0 0, .int .i64 0, .int .i64 0, .int .i64 0, .slice none 0 0] (pn _ _) (hb34 _) ?_
      refine wl_move (.int .i64 t7.2) rfl ?_
      have B35 := ((B26.step0 s22).stepb s29 n25)
      refine wl_store B35 fr32.wf ty70 rfl [.slice none 0 0, .slice none 0 0, .int .i64 0, .int .i64 0, .int .i64 0, .slice none 0 0] (cells_of (v := (.agg #[.slice none 0 0, .slice none 0 0, .int .i64 0, .int .i64 0, .int .i64 0, .slice none 0 0])) rfl rfl) rfl (Nat.le_of_ble_eq_true rfl) (by intro u hu; simp only [List.mem_cons, List.not_mem_nil, or_false] at hu; rcases hu with rfl | rfl | rfl | rfl | rfl | rfl <;> first | rfl | exact Dy.one _) [.slice none 0 0, .slice none 0 0, .int .i64 0, .int .i64 0, .int .i64 0, .slice none 0 0] rfl ?_
      intro w36 s37 B38
      have fr39 := fr32.then s37 (fun _ e => (Option.some.inj e ▸ B35.new))
      refine wl_assign (.int .i64 t7.2) rfl ?_
      refine wl_nil ?_
      refine qn ?_
      refine wc_ret ?_
      refine qr ?_
      have h := Option.some.inj h
      subst h
      refine end2 rfl (.cell rfl (ty70.load (l := [.slice none 0 0, .slice none 0 0, .int .i64 0, .int .i64 0, .int .i64 0, .slice none 0 0]) rfl (B38.cells rfl)) (.tmp rfl .nil)) ?_
      exact ⟨(.slice none 0 0), (.slice none 0 0), (.slice none 0 0), _, rfl, fr39, (Row.nil _ _ _), (Row.nil _ _ _), (Row.nil _ _ _)⟩
    · replace h := (if_neg c33).symm.trans h
      have b40 : (t7.2 != 0) = false := Bool.eq_false_iff.2 c33
      refine wc_else rfl b40 ?_
      refine wc_skip ?_
      refine qn ?_
      refine wc_seq ?_
      have s41 := Stp.drew (w := w28) (hw := hw11) fr32.wf
      have fr42 := fr32.then0 s41
      have B43 := (((B26.step0 s22).stepb s29 n25).step0 s41)
      have B44 := (B30.step0 s41)
      obtain ⟨t46, h47, h⟩ := Option.bind_eq_some_iff.1 h
      cases h
  · rw [if_neg c18] at h
    obtain ⟨b53, hv, B54⟩ := f14.2 c18
    subst hv
    have n55 := mut_new_ne B54 B4.lt
    replace B54 := B54.low fr6.g.size
    refine wl_move (.tuple #[.agg #[.slice (some ⟨b53, 0, none⟩) t7.1.Sectors.length t7.1.Sectors.length, v15], .int .i64 t7.2]) rfl ?_
    refine wl_extract (vs := [.agg #[.slice (some ⟨b53, 0, none⟩) t7.1.Sectors.length t7.1.Sectors.length, v15], .int .i64 t7.2]) (.agg #[.slice (some ⟨b53, 0, none⟩) t7.1.Sectors.length t7.1.Sectors.length, v15]) rfl rfl ?_
    refine wl_extract (vs := [.agg #[.slice (some ⟨b53, 0, none⟩) t7.1.Sectors.length t7.1.Sectors.length, v15], .int .i64 t7.2]) (.int .i64 t7.2) rfl rfl ?_
    refine wl_alloc fr17.wf fr17.g.size ty68 [.slice none 0 0, .slice none 0 0] rfl ?_
    intro b56 w57 s58 B59 g60
    have B62 := (B4.step0 s12)
    have n61 : b1 ≠ b56 := B62.ne g60
    have n63 : b53 ≠ b56 := B54.ne g60
    have fr64 := fr17.then0 s58
    have f68 := f16.ext (s58.ext)
    refine wl_store B59 fr64.wf ty68 rfl [.slice (some ⟨b53, 0, none⟩) t7.1.Sectors.length t7.1.Sectors.length, v15] (cells_of (v := (.agg #[.slice (some ⟨b53, 0, none⟩) t7.1.Sectors.length t7.1.Sectors.length, v15])) rfl rfl) rfl (Nat.le_of_ble_eq_true rfl) (one_all [.slice (some ⟨b53, 0, none⟩) t7.1.Sectors.length t7.1.Sectors.length, v15] (by simp only [List.all_cons, List.all_nil, Bool.and_true, Bool.true_and, row_one f68] <;> rfl)) [.slice (some ⟨b53, 0, none⟩) t7.1.Sectors.length t7.1.Sectors.length, v15] rfl ?_
    intro w65 s66 B67
    have fr69 := fr64.then s66 (fun _ e => (Option.some.inj e ▸ B59.new))
    refine wl_assign (.int .i64 t7.2) rfl ?_
    refine wl_nil ?_
    refine qn ?_
    refine wc_seq ?_
    refine wc_seq ?_
    refine wc_region ?_
    refine wl_move (.int .i64 t7.2) rfl ?_
    refine wl_neq rfl rfl ?_
    refine wl_nil ?_
    refine qn ?_
    by_cases c70 : (t7.2 != 0) = true
    · replace h := (if_pos c70).symm.trans h
      refine wc_then rfl c70 ?_
      refine wc_seq ?_
      refine wc_region ?_
      have hb71 : ∀ w, (Instr.build 70 #[]).run Tryd.prog w = .ok (.agg (List.toArray [.slice none 0 0, .slice none 0 0, .int .i64 0, .int .i64 0, .int .i64 0, .slice none 0 0])) w := by intro  _; kernel_rfl
      refine wl_build [.slice none 0 0, .slice none 0 0, .int .i64 0, .int .i64 0, .int .i64 0, .slice none 0 0] (pn _ _) (hb71 _) ?_
      refine wl_move (.int .i64 t7.2) rfl ?_
      have B72 := ((B62.step0 s58).stepb s66 n61)
      refine wl_store B72 fr69.wf ty70 rfl [.slice none 0 0, .slice none 0 0, .int .i64 0, .int .i64 0, .int .i64 0, .slice none 0 0] (cells_of (v := (.agg #[.slice none 0 0, .slice none 0 0, .int .i64 0, .int .i64 0, .int .i64 0, .slice none 0 0])) rfl rfl) rfl (Nat.le_of_ble_eq_true rfl) (by intro u hu; simp only [List.mem_cons, List.not_mem_nil, or_false] at hu; rcases hu with rfl | rfl | rfl | rfl | rfl | rfl <;> first | rfl | exact Dy.one _) [.slice none 0 0, .slice none 0 0, .int .i64 0, .int .i64 0, .int .i64 0, .slice none 0 0] rfl ?_
      intro w73 s74 B75
      have fr76 := fr69.then s74 (fun _ e => (Option.some.inj e ▸ B72.new))
      refine wl_assign (.int .i64 t7.2) rfl ?_
      refine wl_nil ?_
      refine qn ?_
      refine wc_ret ?_
      refine qr ?_
      have h := Option.some.inj h
      subst h
      refine end2 rfl (.cell rfl (ty70.load (l := [.slice none 0 0, .slice none 0 0, .int .i64 0, .int .i64 0, .int .i64 0, .slice none 0 0]) rfl (B75.cells rfl)) (.tmp rfl .nil)) ?_
      exact ⟨(.slice none 0 0), (.slice none 0 0), (.slice none 0 0), _, rfl, fr76, (Row.nil _ _ _), (Row.nil _ _ _), (Row.nil _ _ _)⟩
    · replace h := (if_neg c70).symm.trans h
      have b77 : (t7.2 != 0) = false := Bool.eq_false_iff.2 c70
      refine wc_else rfl b77 ?_
      refine wc_skip ?_
      refine qn ?_
      refine wc_seq ?_
      have s78 := Stp.drew (w := w65) (hw := hw11) fr69.wf
      have fr79 := fr69.then0 s78
      have B80 := (((B62.step0 s58).stepb s66 n61).step0 s78)
      have B81 := (((B54.step0 s58).stepb s66 n63).step0 s78)
      have B82 := (B67.step0 s78)
      obtain ⟨t84, h85, h⟩ := Option.bind_eq_some_iff.1 h
      by_cases c91 : (0 : Int) ≤ 0 ∧ 0 < (t7.1.Sectors.length : Int)
      · replace h := (if_pos c91).symm.trans h
        refine wc_any (hw := hw11) mixed [[], [0], [], [1, 0, 1, 2], [3, 2, 2, 0, 1, 2]] [15, 16, 17, 18] (by kernel_rfl) (PhiOf [fun v w hw => v = .pointer (some ⟨b56, 0, none⟩), fun v w hw => v = .slice (some ⟨b53, 0, none⟩) t7.1.Sectors.length t7.1.Sectors.length, fun v w hw => v = .string (bs t84), fun v w hw => v = .pointer (some ⟨b53, Int.toNat 0, none⟩), fun v w hw => True]) (fun D σ w hw => Stp none w0 hw0 w hw ∧ Ext (w65).drew hw11 w hw ∧ Box w0.heap.size w hw b1 70 [.slice none 0 0, .slice none 0 0, .int .i64 0, .int .i64 0, .int .i64 0, .slice none 0 0] ∧ MutN Kstr 9 w0.heap.size w hw b53 t7.1.Sectors.length t7.1.Sectors.length (bif D 4 then (t7.1.Sectors.set (Int.toNat 0) t84) else t7.1.Sectors) ∧ Box w0.heap.size w hw b56 68 [.slice (some ⟨b53, 0, none⟩) t7.1.Sectors.length t7.1.Sectors.length, v15]) (stab_of (sbc (fun _ _ _ _ _ _ h => h) (sbc (fun _ _ _ _ _ _ h => h) (sbc (fun _ _ _ _ _ _ h => h) (sbc (fun _ _ _ _ _ _ h => h) (sbc (fun _ _ _ _ _ _ h => h) sbn)))))) ?_ (stc ?_ (stc ?_ (stc ?_ (stc ?_ (stc ?_ stn))))) ?_
        · exact ⟨fr79, Ext.refl _ _, B80, B81, B82⟩
        · intro D97 σ98 w99 hw100 q101 q102 q103 q104 q105 q106
          obtain ⟨fr107, e108, C109, C110, C111⟩ := q101
          have B112 := C110
          rw [show D97 4 = false from (q106 4 rfl)] at B112
          refine wl_field fld68_0 ((q104 4 rfl).trans rfl) ?_
          refine wl_nil ?_
          exact qn ⟨_, _, rfl, (Ext.refl _ _), ⟨fr107, e108.trans (Ext.refl _ _), C109, (mut_bif_f (q106 4 rfl) B112), C111⟩, (aft_some rfl)⟩
        · intro D113 σ114 w115 hw116 q117 q118 q119 q120 q121 q122
          obtain ⟨fr123, e124, C125, C126, C127⟩ := q117
          have B128 := C126
          rw [show D113 4 = false from (q122 4 rfl)] at B128
          obtain ⟨⟨_, m129⟩, _⟩ := q119
          have z130 : (σ114 15) = .pointer (some ⟨b56, 0, none⟩) := m129
          refine wl_loadb1 C127 ty36 z130 (.slice (some ⟨b53, 0, none⟩) t7.1.Sectors.length t7.1.Sectors.length) rfl ?_
          refine wl_nil ?_
          exact qn ⟨_, _, rfl, (Ext.refl _ _), ⟨fr123, e124.trans (Ext.refl _ _), C125, (mut_bif_f (q122 4 rfl) B128), C127⟩, (aft_some rfl)⟩
        · intro D131 σ132 w133 hw134 q135 q136 q137 q138 q139 q140
          obtain ⟨fr141, e142, C143, C144, C145⟩ := q135
          have B146 := C144
          rw [show D131 4 = false from (q140 4 rfl)] at B146
          refine wl_call [.int .i64 1, .int .i64 0] bod61 (mc rfl (mc rfl (mn _))) (ledger_head.ok k fr141.wf 1 0 _ h85) ?_
          rintro e147 w148 ⟨hw149, rfl, s150⟩
          refine ⟨_, rfl, ?_⟩
          have fr151 := fr141.then0 s150
          refine wl_nil ?_
          have B152 := (C143.step0 s150)
          have B153 := (B146.step0 s150)
          have B154 := (C145.step0 s150)
          exact qn ⟨_, _, rfl, s150.ext, ⟨fr151, e142.trans s150.ext, B152, (mut_bif_f (q140 4 rfl) B153), B154⟩, (aft_some rfl)⟩
        · intro D155 σ156 w157 hw158 q159 q160 q161 q162 q163 q164
          obtain ⟨fr165, e166, C167, C168, C169⟩ := q159
          have B170 := C168
          rw [show D155 4 = false from (q164 4 rfl)] at B170
          obtain ⟨⟨_, m171⟩, ⟨_, m172⟩, ⟨_, m173⟩, ⟨_, m174⟩, _⟩ := q161
          have z175 : (σ156 16) = .slice (some ⟨b53, 0, none⟩) t7.1.Sectors.length t7.1.Sectors.length := m171
          have z176 : (σ156 15) = .pointer (some ⟨b56, 0, none⟩) := m172
          have z177 : (σ156 17) = .string (bs t84) := m174
          refine wl_atm Tryd.underlying36 ty9 z175 rfl c91.1 c91.2 ?_
          refine wl_nil ?_
          exact qn ⟨_, _, rfl, (Ext.refl _ _), ⟨fr165, e166.trans (Ext.refl _ _), C167, (mut_bif_f (q164 4 rfl) B170), C169⟩, (aft_some rfl)⟩
        · intro D178 σ179 w180 hw181 q182 q183 q184 q185 q186 q187
          obtain ⟨fr188, e189, C190, C191, C192⟩ := q182
          have B193 := C191
          rw [show D178 4 = false from q183] at B193
          obtain ⟨⟨_, m194⟩, ⟨_, m195⟩, ⟨_, m196⟩, ⟨_, m197⟩, ⟨_, m198⟩, ⟨_, m199⟩, _⟩ := q184
          have z200 : (σ179 18) = .pointer (some ⟨b53, Int.toNat 0, none⟩) := m194
          have z201 : (σ179 17) = .string (bs t84) := m195
          have z202 : (σ179 15) = .pointer (some ⟨b56, 0, none⟩) := m197
          have z203 : (σ179 16) = .slice (some ⟨b53, 0, none⟩) t7.1.Sectors.length t7.1.Sectors.length := m198
          refine wl_storem (enc := fun l => Value.string (bs l)) (h1 := fun _ => rfl) (len := t7.1.Sectors.length) t84 B193 fr188.wf ty9 z200 z201 rfl (by have := c91; omega) ?_
          intro w204 s205 B206
          have fr207 := fr188.then s205 (fun _ e => (Option.some.inj e ▸ B193.new))
          refine wl_nil ?_
          have B208 := (C190.stepb s205 n55)
          have B209 := (C192.stepb s205 (Ne.symm n63))
          exact qn ⟨_, _, rfl, s205.ext, ⟨fr207, e189.trans s205.ext, B208, B206, B209⟩, aft_none⟩
        · intro σ210 w211 hw212 q213 q214 q215
          obtain ⟨fr216, e217, C218, C219, C220⟩ := q213
          obtain ⟨m221, m222, m223, m224, m225, _⟩ := q215
          have B226 : MutN Kstr 9 w0.heap.size w211 hw212 b53 t7.1.Sectors.length t7.1.Sectors.length (t7.1.Sectors.set (Int.toNat 0) t84) := C219
          refine qn ?_
          refine wc_seq ?_
          refine wc_region ?_
          refine wl_loadb C220 ty68 ((q214 4 rfl).trans rfl) [.slice (some ⟨b53, 0, none⟩) t7.1.Sectors.length t7.1.Sectors.length, v15] rfl rfl ?_
          obtain ⟨O227, s228⟩ := MutN.own B226 fr216.wf
          obtain ⟨v229, hv230⟩ : ∃ v : Value, v = .slice (some ⟨b53, 0, none⟩) t7.1.Sectors.length t7.1.Sectors.length := ⟨_, rfl⟩
          rw [← hv230] at O227
          have n231 : Value.ownBlock v229 ≠ some b1 := by rw [hv230]; exact fun e => (Ne.symm n55) (Option.some.inj e)
          have n232 : Value.ownBlock v229 ≠ some b56 := by rw [hv230]; exact fun e => n63 (Option.some.inj e)
          have fr233 := fr216.then s228 (fun _ e => (Option.some.inj e ▸ B226.new))
          have B235 := (C220.stepb s228 (Ne.symm n63))
          have B234 := Box.retype B235 (show ([.slice (some ⟨b53, 0, none⟩) t7.1.Sectors.length t7.1.Sectors.length, v15] : List Value) = [v229, v15] from by rw [hv230])
          have f236 := f68.ext (s66.ext.trans (s78.ext.trans (e217.trans (s228.ext))))
          obtain ⟨t237, h238, h⟩ := Option.bind_eq_some_iff.1 h
          have B243 := (C218.stepb s228 n55)
          refine wl_call [.agg #[v229, v15]] bod62 (mc (Eq.trans rfl (show (.agg #[.slice (some ⟨b53, 0, none⟩) t7.1.Sectors.length t7.1.Sectors.length, v15] : Value) = .agg #[v229, v15] from by rw [hv230])) (mn _)) (ledger_Open.ok k fr233.wf (⟨t7.1.Sectors.set (Int.toNat 0) t84, t7.1.Dirty⟩ : ApiDisk) v229 O227.row v15 f236 _ h238) ?_
          rintro e239 w240 ⟨v244, v246, v248, hw241, rfl, s242, f245, f247, f249⟩
          refine ⟨_, rfl, ?_⟩
          have fr250 := fr233.then0 s242
          refine wl_extract (vs := [.agg #[v244, v246, .int .i64 t237.1.Half, .int .i64 t237.1.Gen, .int .i64 t237.1.Used, v248], .int .i64 t237.2]) (.agg #[v244, v246, .int .i64 t237.1.Half, .int .i64 t237.1.Gen, .int .i64 t237.1.Used, v248]) rfl rfl ?_
          refine wl_extract (vs := [.agg #[v244, v246, .int .i64 t237.1.Half, .int .i64 t237.1.Gen, .int .i64 t237.1.Used, v248], .int .i64 t237.2]) (.int .i64 t237.2) rfl rfl ?_
          have B251 := (B243.step0 s242)
          refine wl_store B251 fr250.wf ty70 ((q214 2 rfl).trans rfl) [v244, v246, .int .i64 t237.1.Half, .int .i64 t237.1.Gen, .int .i64 t237.1.Used, v248] (cells_of (v := (.agg #[v244, v246, .int .i64 t237.1.Half, .int .i64 t237.1.Gen, .int .i64 t237.1.Used, v248])) rfl rfl) rfl (Nat.le_of_ble_eq_true rfl) (one_all [v244, v246, .int .i64 t237.1.Half, .int .i64 t237.1.Gen, .int .i64 t237.1.Used, v248] (by simp only [List.all_cons, List.all_nil, Bool.and_true, Bool.true_and, row_one f245, row_one f247, row_one f249] <;> rfl)) [v244, v246, .int .i64 t237.1.Half, .int .i64 t237.1.Gen, .int .i64 t237.1.Used, v248] rfl ?_
          intro w252 s253 B254
          have fr255 := fr250.then s253 (fun _ e => (Option.some.inj e ▸ B251.new))
          refine wl_assign (.int .i64 t237.2) rfl ?_
          refine wl_nil ?_
          refine qn ?_
          refine wc_ret ?_
          have f256 := f245.ext (s253.ext)
          have f257 := f247.ext (s253.ext)
          have f258 := f249.ext (s253.ext)
          have h := Option.some.inj h
          subst h
          refine end2 rfl (.cell ((q214 2 rfl).trans rfl) (ty70.load (l := [v244, v246, .int .i64 t237.1.Half, .int .i64 t237.1.Gen, .int .i64 t237.1.Used, v248]) rfl (B254.cells rfl)) (.tmp rfl .nil)) ?_
          exact ⟨v244, v246, v248, _, rfl, fr255, f256, f257, f258⟩
      · replace h := (if_neg c91).symm.trans h
        cases h
/-! ### consignor/vault.Format: function 39 -/
def vault_Format.f (k : Nat) (a0 : Int) : Option (ApiVault × Int) := (ledger_Format.f k a0).bind fun t7 => (some ((⟨(⟨(⟨t7.1.Disk.Sectors, t7.1.Disk.Dirty⟩ : ApiDisk), t7.1.Half, t7.1.Gen, t7.1.Used, t7.1.Entries⟩ : ApiLedger), (⟨[], 0, 0⟩ : ApiQueue)⟩ : ApiVault), t7.2))
set_option maxHeartbeats 1000000 in
theorem vault_Format.ok (k : Nat) {w0 : World} {hw0 : Hw} (wf : Hwf w0 hw0) (a0 : Int) (r : (ApiVault × Int)) (h : vault_Format.f k a0 = some r) :
    Calls Tryd.prog 39 #[.int .i64 a0] w0 fun e w' => ∃ (v0_0 : Value) (v0_1 : Value) (v0_5 : Value) (v0_6 : Value) (hw' : Hw), e = .returned (.tuple #[.agg #[v0_0, v0_1, .int .i64 r.1.Ledger.Half, .int .i64 r.1.Ledger.Gen, .int .i64 r.1.Ledger.Used, v0_5, v0_6, .int .i64 r.1.Queue.Last, .int .i64 r.1.Queue.Token], .int .i64 r.2]) ∧ Stp none w0 hw0 w' hw' ∧ Row Kstr w' hw' v0_0 r.1.Ledger.Disk.Sectors ∧ Row KApiWrite w' hw' v0_1 r.1.Ledger.Disk.Dirty ∧ Row Kstr w' hw' v0_5 r.1.Ledger.Entries ∧ Row KApiJob w' hw' v0_6 r.1.Queue.Jobs := by
  have fr0 := Stp.refl none (w := w0) (hw := hw0) wf
  unfold vault_Format.f at h
  refine enter (n := 14) Tryd.func39 rfl rfl (Nat.le_of_ble_eq_true rfl) ?_
  refine wc_seq ?_
  refine wc_region ?_
  refine wl_alloc fr0.wf fr0.g.size ty75 [.slice none 0 0, .slice none 0 0, .int .i64 0, .int .i64 0, .int .i64 0, .slice none 0 0, .slice none 0 0, .int .i64 0, .int .i64 0] rfl ?_
  intro b1 w2 s3 B4 g5
  have fr6 := fr0.then0 s3
  refine wl_assign (.int .i64 0) rfl ?_
  refine wl_nil ?_
  refine qn ?_
  refine wc_seq ?_
  refine wc_region ?_
  refine wl_move (.int .i64 a0) rfl ?_
  obtain ⟨t7, h8, h⟩ := Option.bind_eq_some_iff.1 h
  refine wl_call [.int .i64 a0] bod52 (mc rfl (mn _)) (ledger_Format.ok k fr6.wf a0 _ h8) ?_
  rintro e9 w10 ⟨v13, v15, v17, hw11, rfl, s12, f14, f16, f18⟩
  refine ⟨_, rfl, ?_⟩
  have fr19 := fr6.then0 s12
  refine wl_move (.tuple #[.agg #[v13, v15, .int .i64 t7.1.Half, .int .i64 t7.1.Gen, .int .i64 t7.1.Used, v17], .int .i64 t7.2]) rfl ?_
  refine wl_extract (vs := [.agg #[v13, v15, .int .i64 t7.1.Half, .int .i64 t7.1.Gen, .int .i64 t7.1.Used, v17], .int .i64 t7.2]) (.agg #[v13, v15, .int .i64 t7.1.Half, .int .i64 t7.1.Gen, .int .i64 t7.1.Used, v17]) rfl rfl ?_
  refine wl_extract (vs := [.agg #[v13, v15, .int .i64 t7.1.Half, .int .i64 t7.1.Gen, .int .i64 t7.1.Used, v17], .int .i64 t7.2]) (.int .i64 t7.2) rfl rfl ?_
  refine wl_alloc fr19.wf fr19.g.size ty70 [.slice none 0 0, .slice none 0 0, .int .i64 0, .int .i64 0, .int .i64 0, .slice none 0 0] rfl ?_
  intro b20 w21 s22 B23 g24
  have B26 := (B4.step0 s12)
  have n25 : b1 ≠ b20 := B26.ne g24
  have fr27 := fr19.then0 s22
  have f31 := f14.ext (s22.ext)
  have f32 := f16.ext (s22.ext)
  have f33 := f18.ext (s22.ext)
  refine wl_store B23 fr27.wf ty70 rfl [v13, v15, .int .i64 t7.1.Half, .int .i64 t7.1.Gen, .int .i64 t7.1.Used, v17] (cells_of (v := (.agg #[v13, v15, .int .i64 t7.1.Half, .int .i64 t7.1.Gen, .int .i64 t7.1.Used, v17])) rfl rfl) rfl (Nat.le_of_ble_eq_true rfl) (one_all [v13, v15, .int .i64 t7.1.Half, .int .i64 t7.1.Gen, .int .i64 t7.1.Used, v17] (by simp only [List.all_cons, List.all_nil, Bool.and_true, Bool.true_and, row_one f31, row_one f32, row_one f33] <;> rfl)) [v13, v15, .int .i64 t7.1.Half, .int .i64 t7.1.Gen, .int .i64 t7.1.Used, v17] rfl ?_
  intro w28 s29 B30
  have fr34 := fr27.then s29 (fun _ e => (Option.some.inj e ▸ B23.new))
  refine wl_assign (.int .i64 t7.2) rfl ?_
  refine wl_nil ?_
  refine qn ?_
  refine wc_seq ?_
  refine wc_region ?_
  refine wl_loadb B30 ty70 rfl [v13, v15, .int .i64 t7.1.Half, .int .i64 t7.1.Gen, .int .i64 t7.1.Used, v17] rfl rfl ?_
  have f38 := f31.ext (s29.ext)
  obtain ⟨A35, c36, hv37⟩ := (f38).slice
  have f42 := f32.ext (s29.ext)
  obtain ⟨A39, c40, hv41⟩ := (f42).slice
  have f46 := f33.ext (s29.ext)
  obtain ⟨A43, c44, hv45⟩ := (f46).slice
  have hb47 : ∀ w, (Instr.build 75 #[(0, .agg #[v13, v15, .int .i64 t7.1.Half, .int .i64 t7.1.Gen, .int .i64 t7.1.Used, v17])]).run Tryd.prog w = .ok (.agg (List.toArray [v13, v15, .int .i64 t7.1.Half, .int .i64 t7.1.Gen, .int .i64 t7.1.Used, v17, .slice none 0 0, .int .i64 0, .int .i64 0])) w := by intro  _; rw [hv37]; rw [hv41]; rw [hv45]; kernel_rfl
  refine wl_build [v13, v15, .int .i64 t7.1.Half, .int .i64 t7.1.Gen, .int .i64 t7.1.Used, v17, .slice none 0 0, .int .i64 0, .int .i64 0] (pc rfl (pn _ _)) (hb47 _) ?_
  refine wl_move (.int .i64 t7.2) rfl ?_
  have B48 := ((B26.step0 s22).stepb s29 n25)
  refine wl_store B48 fr34.wf ty75 rfl [v13, v15, .int .i64 t7.1.Half, .int .i64 t7.1.Gen, .int .i64 t7.1.Used, v17, .slice none 0 0, .int .i64 0, .int .i64 0] (cells_of (v := (.agg #[v13, v15, .int .i64 t7.1.Half, .int .i64 t7.1.Gen, .int .i64 t7.1.Used, v17, .slice none 0 0, .int .i64 0, .int .i64 0])) rfl rfl) rfl (Nat.le_of_ble_eq_true rfl) (one_all [v13, v15, .int .i64 t7.1.Half, .int .i64 t7.1.Gen, .int .i64 t7.1.Used, v17, .slice none 0 0, .int .i64 0, .int .i64 0] (by simp only [List.all_cons, List.all_nil, Bool.and_true, Bool.true_and, row_one f38, row_one f42, row_one f46] <;> rfl)) [v13, v15, .int .i64 t7.1.Half, .int .i64 t7.1.Gen, .int .i64 t7.1.Used, v17, .slice none 0 0, .int .i64 0, .int .i64 0] rfl ?_
  intro w49 s50 B51
  have fr52 := fr34.then s50 (fun _ e => (Option.some.inj e ▸ B48.new))
  refine wl_assign (.int .i64 t7.2) rfl ?_
  refine wl_nil ?_
  refine qn ?_
  refine wc_ret ?_
  have f53 := f38.ext (s50.ext)
  have f54 := f42.ext (s50.ext)
  have f55 := f46.ext (s50.ext)
  have h := Option.some.inj h
  subst h
  refine end2 rfl (.cell rfl (ty75.load (l := [v13, v15, .int .i64 t7.1.Half, .int .i64 t7.1.Gen, .int .i64 t7.1.Used, v17, .slice none 0 0, .int .i64 0, .int .i64 0]) rfl (B51.cells rfl)) (.tmp rfl .nil)) ?_
  exact ⟨v13, v15, v17, (.slice none 0 0), _, rfl, fr52, f53, f54, f55, (Row.nil _ _ _)⟩
/-! ### consignor/control.New: function 26 -/
def control_New.f (k : Nat) (a0 : Int) (a1 : Int) : Option (ApiWorld × Int) := (blob_New.f k a0).bind fun t7 => (if (t7.2 != 0) = true then (some ((⟨(⟨(⟨(⟨[], 0, [], 0⟩ : ApiBlobs), []⟩ : ApiRegistry), (⟨(⟨[], 0, [], 0⟩ : ApiBlobs), []⟩ : ApiRegistry)⟩ : S65), (⟨(⟨(⟨[], []⟩ : ApiDisk), 0, 0, 0, []⟩ : ApiLedger), (⟨[], 0, 0⟩ : ApiQueue)⟩ : ApiVault), [], (⟨(⟨false, (⟨0, [], [], 0, 0, 0, 0, 0⟩ : ApiJob), (⟨(⟨0, 0, [], [], [], false, false⟩ : ApiTask), 0, [], (⟨[], []⟩ : ApiWalk), 0, false⟩ : ApiWork)⟩ : ApiHand), (⟨false, (⟨0, [], [], 0, 0, 0, 0, 0⟩ : ApiJob), (⟨(⟨0, 0, [], [], [], false, false⟩ : ApiTask), 0, [], (⟨[], []⟩ : ApiWalk), 0, false⟩ : ApiWork)⟩ : ApiHand)⟩ : S87), 0⟩ : ApiWorld), t7.2)) else ((vault_Format.f k a1).bind fun t40 => (if (t40.2 != 0) = true then (some ((⟨(⟨(⟨(⟨[], 0, [], 0⟩ : ApiBlobs), []⟩ : ApiRegistry), (⟨(⟨[], 0, [], 0⟩ : ApiBlobs), []⟩ : ApiRegistry)⟩ : S65), (⟨(⟨(⟨[], []⟩ : ApiDisk), 0, 0, 0, []⟩ : ApiLedger), (⟨[], 0, 0⟩ : ApiQueue)⟩ : ApiVault), [], (⟨(⟨false, (⟨0, [], [], 0, 0, 0, 0, 0⟩ : ApiJob), (⟨(⟨0, 0, [], [], [], false, false⟩ : ApiTask), 0, [], (⟨[], []⟩ : ApiWalk), 0, false⟩ : ApiWork)⟩ : ApiHand), (⟨false, (⟨0, [], [], 0, 0, 0, 0, 0⟩ : ApiJob), (⟨(⟨0, 0, [], [], [], false, false⟩ : ApiTask), 0, [], (⟨[], []⟩ : ApiWalk), 0, false⟩ : ApiWork)⟩ : ApiHand)⟩ : S87), 0⟩ : ApiWorld), t40.2)) else (some ((⟨(⟨(⟨(⟨t7.1.Objects, t7.1.Quota, t7.1.Uploads, t7.1.Last⟩ : ApiBlobs), []⟩ : ApiRegistry), (⟨(⟨t7.1.Objects, t7.1.Quota, t7.1.Uploads, t7.1.Last⟩ : ApiBlobs), []⟩ : ApiRegistry)⟩ : S65), (⟨(⟨(⟨t40.1.Ledger.Disk.Sectors, t40.1.Ledger.Disk.Dirty⟩ : ApiDisk), t40.1.Ledger.Half, t40.1.Ledger.Gen, t40.1.Ledger.Used, t40.1.Ledger.Entries⟩ : ApiLedger), (⟨t40.1.Queue.Jobs, t40.1.Queue.Last, t40.1.Queue.Token⟩ : ApiQueue)⟩ : ApiVault), [], (⟨(⟨false, (⟨0, [], [], 0, 0, 0, 0, 0⟩ : ApiJob), (⟨(⟨0, 0, [], [], [], false, false⟩ : ApiTask), 0, [], (⟨[], []⟩ : ApiWalk), 0, false⟩ : ApiWork)⟩ : ApiHand), (⟨false, (⟨0, [], [], 0, 0, 0, 0, 0⟩ : ApiJob), (⟨(⟨0, 0, [], [], [], false, false⟩ : ApiTask), 0, [], (⟨[], []⟩ : ApiWalk), 0, false⟩ : ApiWork)⟩ : ApiHand)⟩ : S87), 0⟩ : ApiWorld), 0)))))
set_option maxRecDepth 100000 in
set_option maxHeartbeats 1000000 in
theorem control_New.ok (k : Nat) {w0 : World} {hw0 : Hw} (wf : Hwf w0 hw0) (a0 : Int) (a1 : Int) (r : (ApiWorld × Int)) (h : control_New.f k a0 a1 = some r) :
    Calls Tryd.prog 26 #[.int .i64 a0, .int .i64 a1] w0 fun e w' => ∃ (v0_0 : Value) (v0_2 : Value) (v0_4 : Value) (v0_5 : Value) (v0_7 : Value) (v0_9 : Value) (v0_10 : Value) (v0_11 : Value) (v0_15 : Value) (v0_16 : Value) (v0_19 : Value) (v0_38 : Value) (v0_39 : Value) (v0_60 : Value) (v0_61 : Value) (hw' : Hw), e = .returned (.tuple #[.agg #[v0_0, .int .i64 r.1.Regs.e0.Blobs.Quota, v0_2, .int .i64 r.1.Regs.e0.Blobs.Last, v0_4, v0_5, .int .i64 r.1.Regs.e1.Blobs.Quota, v0_7, .int .i64 r.1.Regs.e1.Blobs.Last, v0_9, v0_10, v0_11, .int .i64 r.1.Vault.Ledger.Half, .int .i64 r.1.Vault.Ledger.Gen, .int .i64 r.1.Vault.Ledger.Used, v0_15, v0_16, .int .i64 r.1.Vault.Queue.Last, .int .i64 r.1.Vault.Queue.Token, v0_19, .bool r.1.Hands.e0.Busy, .int .i64 r.1.Hands.e0.Job.Id, .string (bs r.1.Hands.e0.Job.Key), .string (bs r.1.Hands.e0.Job.Body), .int .i64 r.1.Hands.e0.Job.State, .int .i64 r.1.Hands.e0.Job.Tries, .int .i64 r.1.Hands.e0.Job.Token, .int .i64 r.1.Hands.e0.Job.Until, .int .i64 r.1.Hands.e0.Job.Point, .int .i64 r.1.Hands.e0.Work.Task.Rule, .int .i64 r.1.Hands.e0.Work.Task.From, .string (bs r.1.Hands.e0.Work.Task.Repo), .string (bs r.1.Hands.e0.Work.Task.Tag), .string (bs r.1.Hands.e0.Work.Task.To), .bool r.1.Hands.e0.Work.Task.Override, .bool r.1.Hands.e0.Work.Task.Delete, .int .i64 r.1.Hands.e0.Work.Point, .string (bs r.1.Hands.e0.Work.Digest), v0_38, v0_39, .int .i64 r.1.Hands.e0.Work.Upload, .bool r.1.Hands.e0.Work.Ends, .bool r.1.Hands.e1.Busy, .int .i64 r.1.Hands.e1.Job.Id, .string (bs r.1.Hands.e1.Job.Key), .string (bs r.1.Hands.e1.Job.Body), .int .i64 r.1.Hands.e1.Job.State, .int .i64 r.1.Hands.e1.Job.Tries, .int .i64 r.1.Hands.e1.Job.Token, .int .i64 r.1.Hands.e1.Job.Until, .int .i64 r.1.Hands.e1.Job.Point, .int .i64 r.1.Hands.e1.Work.Task.Rule, .int .i64 r.1.Hands.e1.Work.Task.From, .string (bs r.1.Hands.e1.Work.Task.Repo), .string (bs r.1.Hands.e1.Work.Task.Tag), .string (bs r.1.Hands.e1.Work.Task.To), .bool r.1.Hands.e1.Work.Task.Override, .bool r.1.Hands.e1.Work.Task.Delete, .int .i64 r.1.Hands.e1.Work.Point, .string (bs r.1.Hands.e1.Work.Digest), v0_60, v0_61, .int .i64 r.1.Hands.e1.Work.Upload, .bool r.1.Hands.e1.Work.Ends, .int .i64 r.1.Now], .int .i64 r.2]) ∧ Stp none w0 hw0 w' hw' ∧ Row KApiObject w' hw' v0_0 r.1.Regs.e0.Blobs.Objects ∧ Row KApiUpload w' hw' v0_2 r.1.Regs.e0.Blobs.Uploads ∧ Row KApiRepo w' hw' v0_4 r.1.Regs.e0.Repos ∧ Row KApiObject w' hw' v0_5 r.1.Regs.e1.Blobs.Objects ∧ Row KApiUpload w' hw' v0_7 r.1.Regs.e1.Blobs.Uploads ∧ Row KApiRepo w' hw' v0_9 r.1.Regs.e1.Repos ∧ Row Kstr w' hw' v0_10 r.1.Vault.Ledger.Disk.Sectors ∧ Row KApiWrite w' hw' v0_11 r.1.Vault.Ledger.Disk.Dirty ∧ Row Kstr w' hw' v0_15 r.1.Vault.Ledger.Entries ∧ Row KApiJob w' hw' v0_16 r.1.Vault.Queue.Jobs ∧ Row KApiRule w' hw' v0_19 r.1.Rules ∧ Row Kstr w' hw' v0_38 r.1.Hands.e0.Work.Walk.Manifests ∧ Row Kstr w' hw' v0_39 r.1.Hands.e0.Work.Walk.Blobs ∧ Row Kstr w' hw' v0_60 r.1.Hands.e1.Work.Walk.Manifests ∧ Row Kstr w' hw' v0_61 r.1.Hands.e1.Work.Walk.Blobs := by
  have fr0 := Stp.refl none (w := w0) (hw := hw0) wf
  unfold control_New.f at h
  refine enter (n := 35) Tryd.func26 rfl rfl (Nat.le_of_ble_eq_true rfl) ?_
  refine wc_seq ?_
  refine wc_region ?_
  refine wl_alloc fr0.wf fr0.g.size ty89 [.slice none 0 0, .int .i64 0, .slice none 0 0, .int .i64 0, .slice none 0 0, .slice none 0 0, .int .i64 0, .slice none 0 0, .int .i64 0, .slice none 0 0, .slice none 0 0, .slice none 0 0, .int .i64 0, .int .i64 0, .int .i64 0, .slice none 0 0, .slice none 0 0, .int .i64 0, .int .i64 0, .slice none 0 0, .bool false, .int .i64 0, .string (bs []), .string (bs []), .int .i64 0, .int .i64 0, .int .i64 0, .int .i64 0, .int .i64 0, .int .i64 0, .int .i64 0, .string (bs []), .string (bs []), .string (bs []), .bool false, .bool false, .int .i64 0, .string (bs []), .slice none 0 0, .slice none 0 0, .int .i64 0, .bool false, .bool false, .int .i64 0, .string (bs []), .string (bs []), .int .i64 0, .int .i64 0, .int .i64 0, .int .i64 0, .int .i64 0, .int .i64 0, .int .i64 0, .string (bs []), .string (bs []), .string (bs []), .bool false, .bool false, .int .i64 0, .string (bs []), .slice none 0 0, .slice none 0 0, .int .i64 0, .bool false, .int .i64 0] rfl ?_
  intro b1 w2 s3 B4 g5
  have fr6 := fr0.then0 s3
  refine wl_assign (.int .i64 0) rfl ?_
  refine wl_nil ?_
  refine qn ?_
  refine wc_seq ?_
  refine wc_region ?_
  refine wl_move (.int .i64 a0) rfl ?_
  obtain ⟨t7, h8, h⟩ := Option.bind_eq_some_iff.1 h
  refine wl_call [.int .i64 a0] bod38 (mc rfl (mn _)) (blob_New.ok k fr6.wf a0 _ h8) ?_
  rintro e9 w10 ⟨v13, v15, hw11, rfl, s12, f14, f16⟩
  refine ⟨_, rfl, ?_⟩
  have fr17 := fr6.then0 s12
  refine wl_move (.tuple #[.agg #[v13, .int .i64 t7.1.Quota, v15, .int .i64 t7.1.Last], .int .i64 t7.2]) rfl ?_
  refine wl_extract (vs := [.agg #[v13, .int .i64 t7.1.Quota, v15, .int .i64 t7.1.Last], .int .i64 t7.2]) (.agg #[v13, .int .i64 t7.1.Quota, v15, .int .i64 t7.1.Last]) rfl rfl ?_
  refine wl_extract (vs := [.agg #[v13, .int .i64 t7.1.Quota, v15, .int .i64 t7.1.Last], .int .i64 t7.2]) (.int .i64 t7.2) rfl rfl ?_
  refine wl_alloc fr17.wf fr17.g.size ty61 [.slice none 0 0, .int .i64 0, .slice none 0 0, .int .i64 0] rfl ?_
  intro b18 w19 s20 B21 g22
  have B24 := (B4.step0 s12)
  have n23 : b1 ≠ b18 := B24.ne g22
  have fr25 := fr17.then0 s20
  have f29 := f14.ext (s20.ext)
  have f30 := f16.ext (s20.ext)
  refine wl_store B21 fr25.wf ty61 rfl [v13, .int .i64 t7.1.Quota, v15, .int .i64 t7.1.Last] (cells_of (v := (.agg #[v13, .int .i64 t7.1.Quota, v15, .int .i64 t7.1.Last])) rfl rfl) rfl (Nat.le_of_ble_eq_true rfl) (one_all [v13, .int .i64 t7.1.Quota, v15, .int .i64 t7.1.Last] (by simp only [List.all_cons, List.all_nil, Bool.and_true, Bool.true_and, row_one f29, row_one f30] <;> rfl)) [v13, .int .i64 t7.1.Quota, v15, .int .i64 t7.1.Last] rfl ?_
  intro w26 s27 B28
  have fr31 := fr25.then s27 (fun _ e => (Option.some.inj e ▸ B21.new))
  refine wl_assign (.int .i64 t7.2) rfl ?_
  refine wl_nil ?_
  refine qn ?_
  refine wc_seq ?_
  refine wc_seq ?_
  refine wc_region ?_
  refine wl_move (.int .i64 t7.2) rfl ?_
  refine wl_neq rfl rfl ?_
  refine wl_nil ?_
  refine qn ?_
  by_cases c32 : (t7.2 != 0) = true
  · replace h := (if_pos c32).symm.trans h
    refine wc_then rfl c32 ?_
    refine wc_seq ?_
    refine wc_region ?_
    have hb33 : ∀ w, (Instr.build 89 #[]).run Tryd.prog w = .ok (.agg (List.toArray ((.slice none 0 0) :: (.int .i64 0) :: (.slice none 0 0) :: (.int .i64 0) :: (.slice none 0 0) :: (.slice none 0 0) :: (.int .i64 0) :: (.slice none 0 0) :: (.int .i64 0) :: (.slice none 0 0) :: (.slice none 0 0) :: (.slice none 0 0) :: (.int .i64 0) :: (.int .i64 0) :: (.int .i64 0) :: (.slice none 0 0) :: (.slice none 0 0) :: (.int .i64 0) :: (.int .i64 0) :: (.slice none 0 0) :: (.bool false) :: (.int .i64 0) :: (.string (bs [])) :: (.string (bs [])) :: (.int .i64 0) :: (.int .i64 0) :: (.int .i64 0) :: (.int .i64 0) :: (.int .i64 0) :: (.int .i64 0) :: (.int .i64 0) :: (.string (bs [])) :: (.string (bs [])) :: (.string (bs [])) :: (.bool false) :: (.bool false) :: (.int .i64 0) :: (.string (bs [])) :: (.slice none 0 0) :: (.slice none 0 0) :: (.int .i64 0) :: (.bool false) :: (.bool false) :: (.int .i64 0) :: (.string (bs [])) :: (.string (bs [])) :: (.int .i64 0) :: (.int .i64 0) :: (.int .i64 0) :: (.int .i64 0) :: (.int .i64 0) :: (.int .i64 0) :: (.int .i64 0) :: (.string (bs [])) :: (.string (bs [])) :: (.string (bs [])) :: (.bool false) :: (.bool false) :: (.int .i64 0) :: (.string (bs [])) :: (.slice none 0 0) :: (.slice none 0 0) :: (.int .i64 0) :: (.bool false) :: (.int .i64 0) :: []))) w := by intro  _; kernel_rfl
    refine wl_build ((.slice none 0 0) :: (.int .i64 0) :: (.slice none 0 0) :: (.int .i64 0) :: (.slice none 0 0) :: (.slice none 0 0) :: (.int .i64 0) :: (.slice none 0 0) :: (.int .i64 0) :: (.slice none 0 0) :: (.slice none 0 0) :: (.slice none 0 0) :: (.int .i64 0) :: (.int .i64 0) :: (.int .i64 0) :: (.slice none 0 0) :: (.slice none 0 0) :: (.int .i64 0) :: (.int .i64 0) :: (.slice none 0 0) :: (.bool false) :: (.int .i64 0) :: (.string (bs [])) :: (.string (bs [])) :: (.int .i64 0) :: (.int .i64 0) :: (.int .i64 0) :: (.int .i64 0) :: (.int .i64 0) :: (.int .i64 0) :: (.int .i64 0) :: (.string (bs [])) :: (.string (bs [])) :: (.string (bs [])) :: (.bool false) :: (.bool false) :: (.int .i64 0) :: (.string (bs [])) :: (.slice none 0 0) :: (.slice none 0 0) :: (.int .i64 0) :: (.bool false) :: (.bool false) :: (.int .i64 0) :: (.string (bs [])) :: (.string (bs [])) :: (.int .i64 0) :: (.int .i64 0) :: (.int .i64 0) :: (.int .i64 0) :: (.int .i64 0) :: (.int .i64 0) :: (.int .i64 0) :: (.string (bs [])) :: (.string (bs [])) :: (.string (bs [])) :: (.bool false) :: (.bool false) :: (.int .i64 0) :: (.string (bs [])) :: (.slice none 0 0) :: (.slice none 0 0) :: (.int .i64 0) :: (.bool false) :: (.int .i64 0) :: []) (pn _ _) (hb33 _) ?_
    refine wl_move (.int .i64 t7.2) rfl ?_
    have B34 := ((B24.step0 s20).stepb s27 n23)
    refine wl_store B34 fr31.wf ty89 rfl [.slice none 0 0, .int .i64 0, .slice none 0 0, .int .i64 0, .slice none 0 0, .slice none 0 0, .int .i64 0, .slice none 0 0, .int .i64 0, .slice none 0 0, .slice none 0 0, .slice none 0 0, .int .i64 0, .int .i64 0, .int .i64 0, .slice none 0 0, .slice none 0 0, .int .i64 0, .int .i64 0, .slice none 0 0, .bool false, .int .i64 0, .string (bs []), .string (bs []), .int .i64 0, .int .i64 0, .int .i64 0, .int .i64 0, .int .i64 0, .int .i64 0, .int .i64 0, .string (bs []), .string (bs []), .string (bs []), .bool false, .bool false, .int .i64 0, .string (bs []), .slice none 0 0, .slice none 0 0, .int .i64 0, .bool false, .bool false, .int .i64 0, .string (bs []), .string (bs []), .int .i64 0, .int .i64 0, .int .i64 0, .int .i64 0, .int .i64 0, .int .i64 0, .int .i64 0, .string (bs []), .string (bs []), .string (bs []), .bool false, .bool false, .int .i64 0, .string (bs []), .slice none 0 0, .slice none 0 0, .int .i64 0, .bool false, .int .i64 0] (cells_of (v := (.agg #[.slice none 0 0, .int .i64 0, .slice none 0 0, .int .i64 0, .slice none 0 0, .slice none 0 0, .int .i64 0, .slice none 0 0, .int .i64 0, .slice none 0 0, .slice none 0 0, .slice none 0 0, .int .i64 0, .int .i64 0, .int .i64 0, .slice none 0 0, .slice none 0 0, .int .i64 0, .int .i64 0, .slice none 0 0, .bool false, .int .i64 0, .string (bs []), .string (bs []), .int .i64 0, .int .i64 0, .int .i64 0, .int .i64 0, .int .i64 0, .int .i64 0, .int .i64 0, .string (bs []), .string (bs []), .string (bs []), .bool false, .bool false, .int .i64 0, .string (bs []), .slice none 0 0, .slice none 0 0, .int .i64 0, .bool false, .bool false, .int .i64 0, .string (bs []), .string (bs []), .int .i64 0, .int .i64 0, .int .i64 0, .int .i64 0, .int .i64 0, .int .i64 0, .int .i64 0, .string (bs []), .string (bs []), .string (bs []), .bool false, .bool false, .int .i64 0, .string (bs []), .slice none 0 0, .slice none 0 0, .int .i64 0, .bool false, .int .i64 0])) rfl rfl) rfl (Nat.le_of_ble_eq_true rfl) (by intro u hu; simp only [List.mem_cons, List.not_mem_nil, or_false] at hu; rcases hu with rfl | rfl | rfl | rfl | rfl | rfl | rfl | rfl | rfl | rfl | rfl | rfl | rfl | rfl | rfl | rfl | rfl | rfl | rfl | rfl | rfl | rfl | rfl | rfl | rfl | rfl | rfl | rfl | rfl | rfl | rfl | rfl | rfl | rfl | rfl | rfl | rfl | rfl | rfl | rfl | rfl | rfl | rfl | rfl | rfl | rfl | rfl | rfl | rfl | rfl | rfl | rfl | rfl | rfl | rfl | rfl | rfl | rfl | rfl | rfl | rfl | rfl | rfl | rfl | rfl <;> first | rfl | exact Dy.one _) [.slice none 0 0, .int .i64 0, .slice none 0 0, .int .i64 0, .slice none 0 0, .slice none 0 0, .int .i64 0, .slice none 0 0, .int .i64 0, .slice none 0 0, .slice none 0 0, .slice none 0 0, .int .i64 0, .int .i64 0, .int .i64 0, .slice none 0 0, .slice none 0 0, .int .i64 0, .int .i64 0, .slice none 0 0, .bool false, .int .i64 0, .string (bs []), .string (bs []), .int .i64 0, .int .i64 0, .int .i64 0, .int .i64 0, .int .i64 0, .int .i64 0, .int .i64 0, .string (bs []), .string (bs []), .string (bs []), .bool false, .bool false, .int .i64 0, .string (bs []), .slice none 0 0, .slice none 0 0, .int .i64 0, .bool false, .bool false, .int .i64 0, .string (bs []), .string (bs []), .int .i64 0, .int .i64 0, .int .i64 0, .int .i64 0, .int .i64 0, .int .i64 0, .int .i64 0, .string (bs []), .string (bs []), .string (bs []), .bool false, .bool false, .int .i64 0, .string (bs []), .slice none 0 0, .slice none 0 0, .int .i64 0, .bool false, .int .i64 0] rfl ?_
    intro w35 s36 B37
    have fr38 := fr31.then s36 (fun _ e => (Option.some.inj e ▸ B34.new))
    refine wl_assign (.int .i64 t7.2) rfl ?_
    refine wl_nil ?_
    refine qn ?_
    refine wc_ret ?_
    refine qr ?_
    have h := Option.some.inj h
    subst h
    refine end2 rfl (.cell rfl (ty89.load (l := [.slice none 0 0, .int .i64 0, .slice none 0 0, .int .i64 0, .slice none 0 0, .slice none 0 0, .int .i64 0, .slice none 0 0, .int .i64 0, .slice none 0 0, .slice none 0 0, .slice none 0 0, .int .i64 0, .int .i64 0, .int .i64 0, .slice none 0 0, .slice none 0 0, .int .i64 0, .int .i64 0, .slice none 0 0, .bool false, .int .i64 0, .string (bs []), .string (bs []), .int .i64 0, .int .i64 0, .int .i64 0, .int .i64 0, .int .i64 0, .int .i64 0, .int .i64 0, .string (bs []), .string (bs []), .string (bs []), .bool false, .bool false, .int .i64 0, .string (bs []), .slice none 0 0, .slice none 0 0, .int .i64 0, .bool false, .bool false, .int .i64 0, .string (bs []), .string (bs []), .int .i64 0, .int .i64 0, .int .i64 0, .int .i64 0, .int .i64 0, .int .i64 0, .int .i64 0, .string (bs []), .string (bs []), .string (bs []), .bool false, .bool false, .int .i64 0, .string (bs []), .slice none 0 0, .slice none 0 0, .int .i64 0, .bool false, .int .i64 0]) rfl (B37.cells rfl)) (.tmp rfl .nil)) ?_
    exact ⟨(.slice none 0 0), (.slice none 0 0), (.slice none 0 0), (.slice none 0 0), (.slice none 0 0), (.slice none 0 0), (.slice none 0 0), (.slice none 0 0), (.slice none 0 0), (.slice none 0 0), (.slice none 0 0), (.slice none 0 0), (.slice none 0 0), (.slice none 0 0), (.slice none 0 0), _, rfl, fr38, (Row.nil _ _ _), (Row.nil _ _ _), (Row.nil _ _ _), (Row.nil _ _ _), (Row.nil _ _ _), (Row.nil _ _ _), (Row.nil _ _ _), (Row.nil _ _ _), (Row.nil _ _ _), (Row.nil _ _ _), (Row.nil _ _ _), (Row.nil _ _ _), (Row.nil _ _ _), (Row.nil _ _ _), (Row.nil _ _ _)⟩
  · replace h := (if_neg c32).symm.trans h
    have b39 : (t7.2 != 0) = false := Bool.eq_false_iff.2 c32
    refine wc_else rfl b39 ?_
    refine wc_skip ?_
    refine qn ?_
    refine wc_seq ?_
    refine wc_region ?_
    refine wl_move (.int .i64 a1) rfl ?_
    obtain ⟨t40, h41, h⟩ := Option.bind_eq_some_iff.1 h
    have B46 := ((B24.step0 s20).stepb s27 n23)
    refine wl_call [.int .i64 a1] bod39 (mc rfl (mn _)) (vault_Format.ok k fr31.wf a1 _ h41) ?_
    rintro e42 w43 ⟨v47, v49, v51, v53, hw44, rfl, s45, f48, f50, f52, f54⟩
    refine ⟨_, rfl, ?_⟩
    have fr55 := fr31.then0 s45
    refine wl_move (.tuple #[.agg #[v47, v49, .int .i64 t40.1.Ledger.Half, .int .i64 t40.1.Ledger.Gen, .int .i64 t40.1.Ledger.Used, v51, v53, .int .i64 t40.1.Queue.Last, .int .i64 t40.1.Queue.Token], .int .i64 t40.2]) rfl ?_
    refine wl_extract (vs := [.agg #[v47, v49, .int .i64 t40.1.Ledger.Half, .int .i64 t40.1.Ledger.Gen, .int .i64 t40.1.Ledger.Used, v51, v53, .int .i64 t40.1.Queue.Last, .int .i64 t40.1.Queue.Token], .int .i64 t40.2]) (.agg #[v47, v49, .int .i64 t40.1.Ledger.Half, .int .i64 t40.1.Ledger.Gen, .int .i64 t40.1.Ledger.Used, v51, v53, .int .i64 t40.1.Queue.Last, .int .i64 t40.1.Queue.Token]) rfl rfl ?_
    refine wl_extract (vs := [.agg #[v47, v49, .int .i64 t40.1.Ledger.Half, .int .i64 t40.1.Ledger.Gen, .int .i64 t40.1.Ledger.Used, v51, v53, .int .i64 t40.1.Queue.Last, .int .i64 t40.1.Queue.Token], .int .i64 t40.2]) (.int .i64 t40.2) rfl rfl ?_
    refine wl_alloc fr55.wf fr55.g.size ty75 [.slice none 0 0, .slice none 0 0, .int .i64 0, .int .i64 0, .int .i64 0, .slice none 0 0, .slice none 0 0, .int .i64 0, .int .i64 0] rfl ?_
    intro b56 w57 s58 B59 g60
    have B62 := (B46.step0 s45)
    have n61 : b1 ≠ b56 := B62.ne g60
    have B64 := (B28.step0 s45)
    have n63 : b18 ≠ b56 := B64.ne g60
    have fr65 := fr55.then0 s58
    have f69 := f48.ext (s58.ext)
    have f70 := f50.ext (s58.ext)
    have f71 := f52.ext (s58.ext)
    have f72 := f54.ext (s58.ext)
    refine wl_store B59 fr65.wf ty75 rfl [v47, v49, .int .i64 t40.1.Ledger.Half, .int .i64 t40.1.Ledger.Gen, .int .i64 t40.1.Ledger.Used, v51, v53, .int .i64 t40.1.Queue.Last, .int .i64 t40.1.Queue.Token] (cells_of (v := (.agg #[v47, v49, .int .i64 t40.1.Ledger.Half, .int .i64 t40.1.Ledger.Gen, .int .i64 t40.1.Ledger.Used, v51, v53, .int .i64 t40.1.Queue.Last, .int .i64 t40.1.Queue.Token])) rfl rfl) rfl (Nat.le_of_ble_eq_true rfl) (one_all [v47, v49, .int .i64 t40.1.Ledger.Half, .int .i64 t40.1.Ledger.Gen, .int .i64 t40.1.Ledger.Used, v51, v53, .int .i64 t40.1.Queue.Last, .int .i64 t40.1.Queue.Token] (by simp only [List.all_cons, List.all_nil, Bool.and_true, Bool.true_and, row_one f69, row_one f70, row_one f71, row_one f72] <;> rfl)) [v47, v49, .int .i64 t40.1.Ledger.Half, .int .i64 t40.1.Ledger.Gen, .int .i64 t40.1.Ledger.Used, v51, v53, .int .i64 t40.1.Queue.Last, .int .i64 t40.1.Queue.Token] rfl ?_
    intro w66 s67 B68
    have fr73 := fr65.then s67 (fun _ e => (Option.some.inj e ▸ B59.new))
    refine wl_assign (.int .i64 t40.2) rfl ?_
    refine wl_nil ?_
    refine qn ?_
    refine wc_seq ?_
    refine wc_seq ?_
    refine wc_region ?_
    refine wl_move (.int .i64 t40.2) rfl ?_
    refine wl_neq rfl rfl ?_
    refine wl_nil ?_
    refine qn ?_
    by_cases c74 : (t40.2 != 0) = true
    · replace h := (if_pos c74).symm.trans h
      refine wc_then rfl c74 ?_
      refine wc_seq ?_
      refine wc_region ?_
      have hb75 : ∀ w, (Instr.build 89 #[]).run Tryd.prog w = .ok (.agg (List.toArray ((.slice none 0 0) :: (.int .i64 0) :: (.slice none 0 0) :: (.int .i64 0) :: (.slice none 0 0) :: (.slice none 0 0) :: (.int .i64 0) :: (.slice none 0 0) :: (.int .i64 0) :: (.slice none 0 0) :: (.slice none 0 0) :: (.slice none 0 0) :: (.int .i64 0) :: (.int .i64 0) :: (.int .i64 0) :: (.slice none 0 0) :: (.slice none 0 0) :: (.int .i64 0) :: (.int .i64 0) :: (.slice none 0 0) :: (.bool false) :: (.int .i64 0) :: (.string (bs [])) :: (.string (bs [])) :: (.int .i64 0) :: (.int .i64 0) :: (.int .i64 0) :: (.int .i64 0) :: (.int .i64 0) :: (.int .i64 0) :: (.int .i64 0) :: (.string (bs [])) :: (.string (bs [])) :: (.string (bs [])) :: (.bool false) :: (.bool false) :: (.int .i64 0) :: (.string (bs [])) :: (.slice none 0 0) :: (.slice none 0 0) :: (.int .i64 0) :: (.bool false) :: (.bool false) :: (.int .i64 0) :: (.string (bs [])) :: (.string (bs [])) :: (.int .i64 0) :: (.int .i64 0) :: (.int .i64 0) :: (.int .i64 0) :: (.int .i64 0) :: (.int .i64 0) :: (.int .i64 0) :: (.string (bs [])) :: (.string (bs [])) :: (.string (bs [])) :: (.bool false) :: (.bool false) :: (.int .i64 0) :: (.string (bs [])) :: (.slice none 0 0) :: (.slice none 0 0) :: (.int .i64 0) :: (.bool false) :: (.int .i64 0) :: []))) w := by intro  _; kernel_rfl
      refine wl_build ((.slice none 0 0) :: (.int .i64 0) :: (.slice none 0 0) :: (.int .i64 0) :: (.slice none 0 0) :: (.slice none 0 0) :: (.int .i64 0) :: (.slice none 0 0) :: (.int .i64 0) :: (.slice none 0 0) :: (.slice none 0 0) :: (.slice none 0 0) :: (.int .i64 0) :: (.int .i64 0) :: (.int .i64 0) :: (.slice none 0 0) :: (.slice none 0 0) :: (.int .i64 0) :: (.int .i64 0) :: (.slice none 0 0) :: (.bool false) :: (.int .i64 0) :: (.string (bs [])) :: (.string (bs [])) :: (.int .i64 0) :: (.int .i64 0) :: (.int .i64 0) :: (.int .i64 0) :: (.int .i64 0) :: (.int .i64 0) :: (.int .i64 0) :: (.string (bs [])) :: (.string (bs [])) :: (.string (bs [])) :: (.bool false) :: (.bool false) :: (.int .i64 0) :: (.string (bs [])) :: (.slice none 0 0) :: (.slice none 0 0) :: (.int .i64 0) :: (.bool false) :: (.bool false) :: (.int .i64 0) :: (.string (bs [])) :: (.string (bs [])) :: (.int .i64 0) :: (.int .i64 0) :: (.int .i64 0) :: (.int .i64 0) :: (.int .i64 0) :: (.int .i64 0) :: (.int .i64 0) :: (.string (bs [])) :: (.string (bs [])) :: (.string (bs [])) :: (.bool false) :: (.bool false) :: (.int .i64 0) :: (.string (bs [])) :: (.slice none 0 0) :: (.slice none 0 0) :: (.int .i64 0) :: (.bool false) :: (.int .i64 0) :: []) (pn _ _) (hb75 _) ?_
      refine wl_move (.int .i64 t40.2) rfl ?_
      have B76 := ((B62.step0 s58).stepb s67 n61)
      refine wl_store B76 fr73.wf ty89 rfl [.slice none 0 0, .int .i64 0, .slice none 0 0, .int .i64 0, .slice none 0 0, .slice none 0 0, .int .i64 0, .slice none 0 0, .int .i64 0, .slice none 0 0, .slice none 0 0, .slice none 0 0, .int .i64 0, .int .i64 0, .int .i64 0, .slice none 0 0, .slice none 0 0, .int .i64 0, .int .i64 0, .slice none 0 0, .bool false, .int .i64 0, .string (bs []), .string (bs []), .int .i64 0, .int .i64 0, .int .i64 0, .int .i64 0, .int .i64 0, .int .i64 0, .int .i64 0, .string (bs []), .string (bs []), .string (bs []), .bool false, .bool false, .int .i64 0, .string (bs []), .slice none 0 0, .slice none 0 0, .int .i64 0, .bool false, .bool false, .int .i64 0, .string (bs []), .string (bs []), .int .i64 0, .int .i64 0, .int .i64 0, .int .i64 0, .int .i64 0, .int .i64 0, .int .i64 0, .string (bs []), .string (bs []), .string (bs []), .bool false, .bool false, .int .i64 0, .string (bs []), .slice none 0 0, .slice none 0 0, .int .i64 0, .bool false, .int .i64 0] (cells_of (v := (.agg #[.slice none 0 0, .int .i64 0, .slice none 0 0, .int .i64 0, .slice none 0 0, .slice none 0 0, .int .i64 0, .slice none 0 0, .int .i64 0, .slice none 0 0, .slice none 0 0, .slice none 0 0, .int .i64 0, .int .i64 0, .int .i64 0, .slice none 0 0, .slice none 0 0, .int .i64 0, .int .i64 0, .slice none 0 0, .bool false, .int .i64 0, .string (bs []), .string (bs []), .int .i64 0, .int .i64 0, .int .i64 0, .int .i64 0, .int .i64 0, .int .i64 0, .int .i64 0, .string (bs []), .string (bs []), .string (bs []), .bool false, .bool false, .int .i64 0, .string (bs []), .slice none 0 0, .slice none 0 0, .int .i64 0, .bool false, .bool false, .int .i64 0, .string (bs []), .string (bs []), .int .i64 0, .int .i64 0, .int .i64 0, .int .i64 0, .int .i64 0, .int .i64 0, .int .i64 0, .string (bs []), .string (bs []), .string (bs []), .bool false, .bool false, .int .i64 0, .string (bs []), .slice none 0 0, .slice none 0 0, .int .i64 0, .bool false, .int .i64 0])) rfl rfl) rfl (Nat.le_of_ble_eq_true rfl) (by intro u hu; simp only [List.mem_cons, List.not_mem_nil, or_false] at hu; rcases hu with rfl | rfl | rfl | rfl | rfl | rfl | rfl | rfl | rfl | rfl | rfl | rfl | rfl | rfl | rfl | rfl | rfl | rfl | rfl | rfl | rfl | rfl | rfl | rfl | rfl | rfl | rfl | rfl | rfl | rfl | rfl | rfl | rfl | rfl | rfl | rfl | rfl | rfl | rfl | rfl | rfl | rfl | rfl | rfl | rfl | rfl | rfl | rfl | rfl | rfl | rfl | rfl | rfl | rfl | rfl | rfl | rfl | rfl | rfl | rfl | rfl | rfl | rfl | rfl | rfl <;> first | rfl | exact Dy.one _) [.slice none 0 0, .int .i64 0, .slice none 0 0, .int .i64 0, .slice none 0 0, .slice none 0 0, .int .i64 0, .slice none 0 0, .int .i64 0, .slice none 0 0, .slice none 0 0, .slice none 0 0, .int .i64 0, .int .i64 0, .int .i64 0, .slice none 0 0, .slice none 0 0, .int .i64 0, .int .i64 0, .slice none 0 0, .bool false, .int .i64 0, .string (bs []), .string (bs []), .int .i64 0, .int .i64 0, .int .i64 0, .int .i64 0, .int .i64 0, .int .i64 0, .int .i64 0, .string (bs []), .string (bs []), .string (bs []), .bool false, .bool false, .int .i64 0, .string (bs []), .slice none 0 0, .slice none 0 0, .int .i64 0, .bool false, .bool false, .int .i64 0, .string (bs []), .string (bs []), .int .i64 0, .int .i64 0, .int .i64 0, .int .i64 0, .int .i64 0, .int .i64 0, .int .i64 0, .string (bs []), .string (bs []), .string (bs []), .bool false, .bool false, .int .i64 0, .string (bs []), .slice none 0 0, .slice none 0 0, .int .i64 0, .bool false, .int .i64 0] rfl ?_
      intro w77 s78 B79
      have fr80 := fr73.then s78 (fun _ e => (Option.some.inj e ▸ B76.new))
      refine wl_assign (.int .i64 t40.2) rfl ?_
      refine wl_nil ?_
      refine qn ?_
      refine wc_ret ?_
      refine qr ?_
      have h := Option.some.inj h
      subst h
      refine end2 rfl (.cell rfl (ty89.load (l := [.slice none 0 0, .int .i64 0, .slice none 0 0, .int .i64 0, .slice none 0 0, .slice none 0 0, .int .i64 0, .slice none 0 0, .int .i64 0, .slice none 0 0, .slice none 0 0, .slice none 0 0, .int .i64 0, .int .i64 0, .int .i64 0, .slice none 0 0, .slice none 0 0, .int .i64 0, .int .i64 0, .slice none 0 0, .bool false, .int .i64 0, .string (bs []), .string (bs []), .int .i64 0, .int .i64 0, .int .i64 0, .int .i64 0, .int .i64 0, .int .i64 0, .int .i64 0, .string (bs []), .string (bs []), .string (bs []), .bool false, .bool false, .int .i64 0, .string (bs []), .slice none 0 0, .slice none 0 0, .int .i64 0, .bool false, .bool false, .int .i64 0, .string (bs []), .string (bs []), .int .i64 0, .int .i64 0, .int .i64 0, .int .i64 0, .int .i64 0, .int .i64 0, .int .i64 0, .string (bs []), .string (bs []), .string (bs []), .bool false, .bool false, .int .i64 0, .string (bs []), .slice none 0 0, .slice none 0 0, .int .i64 0, .bool false, .int .i64 0]) rfl (B79.cells rfl)) (.tmp rfl .nil)) ?_
      exact ⟨(.slice none 0 0), (.slice none 0 0), (.slice none 0 0), (.slice none 0 0), (.slice none 0 0), (.slice none 0 0), (.slice none 0 0), (.slice none 0 0), (.slice none 0 0), (.slice none 0 0), (.slice none 0 0), (.slice none 0 0), (.slice none 0 0), (.slice none 0 0), (.slice none 0 0), _, rfl, fr80, (Row.nil _ _ _), (Row.nil _ _ _), (Row.nil _ _ _), (Row.nil _ _ _), (Row.nil _ _ _), (Row.nil _ _ _), (Row.nil _ _ _), (Row.nil _ _ _), (Row.nil _ _ _), (Row.nil _ _ _), (Row.nil _ _ _), (Row.nil _ _ _), (Row.nil _ _ _), (Row.nil _ _ _), (Row.nil _ _ _)⟩
    · replace h := (if_neg c74).symm.trans h
      have b81 : (t40.2 != 0) = false := Bool.eq_false_iff.2 c74
      refine wc_else rfl b81 ?_
      refine wc_skip ?_
      refine qn ?_
      refine wc_seq ?_
      refine wc_region ?_
      have B82 := ((B64.step0 s58).stepb s67 n63)
      refine wl_loadb B82 ty61 rfl [v13, .int .i64 t7.1.Quota, v15, .int .i64 t7.1.Last] rfl rfl ?_
      have f86 := f29.ext (s27.ext.trans (s45.ext.trans (s58.ext.trans (s67.ext))))
      obtain ⟨A83, c84, hv85⟩ := (f86).slice
      have f90 := f30.ext (s27.ext.trans (s45.ext.trans (s58.ext.trans (s67.ext))))
      obtain ⟨A87, c88, hv89⟩ := (f90).slice
      have hb91 : ∀ w, (Instr.build 64 #[(0, .agg #[v13, .int .i64 t7.1.Quota, v15, .int .i64 t7.1.Last])]).run Tryd.prog w = .ok (.agg (List.toArray [v13, .int .i64 t7.1.Quota, v15, .int .i64 t7.1.Last, .slice none 0 0])) w := by intro  _; rw [hv85]; rw [hv89]; kernel_rfl
      refine wl_build [v13, .int .i64 t7.1.Quota, v15, .int .i64 t7.1.Last, .slice none 0 0] (pc rfl (pn _ _)) (hb91 _) ?_
      refine wl_alloc fr73.wf fr73.g.size ty64 [.slice none 0 0, .int .i64 0, .slice none 0 0, .int .i64 0, .slice none 0 0] rfl ?_
      intro b92 w93 s94 B95 g96
      have B98 := ((B62.step0 s58).stepb s67 n61)
      have n97 : b1 ≠ b92 := B98.ne g96
      have n99 : b18 ≠ b92 := B82.ne g96
      have n100 : b56 ≠ b92 := B68.ne g96
      have fr101 := fr73.then0 s94
      have f105 := f86.ext (s94.ext)
      have f106 := f90.ext (s94.ext)
      refine wl_store B95 fr101.wf ty64 rfl [v13, .int .i64 t7.1.Quota, v15, .int .i64 t7.1.Last, .slice none 0 0] (cells_of (v := (.agg #[v13, .int .i64 t7.1.Quota, v15, .int .i64 t7.1.Last, .slice none 0 0])) rfl rfl) rfl (Nat.le_of_ble_eq_true rfl) (one_all [v13, .int .i64 t7.1.Quota, v15, .int .i64 t7.1.Last, .slice none 0 0] (by simp only [List.all_cons, List.all_nil, Bool.and_true, Bool.true_and, row_one f105, row_one f106] <;> rfl)) [v13, .int .i64 t7.1.Quota, v15, .int .i64 t7.1.Last, .slice none 0 0] rfl ?_
      intro w102 s103 B104
      have fr107 := fr101.then s103 (fun _ e => (Option.some.inj e ▸ B95.new))
      refine wl_nil ?_
      refine qn ?_
      refine wc_seq ?_
      refine wc_region ?_
      refine wl_loadb B104 ty64 rfl [v13, .int .i64 t7.1.Quota, v15, .int .i64 t7.1.Last, .slice none 0 0] rfl rfl ?_
      refine wl_loadb B104 ty64 rfl [v13, .int .i64 t7.1.Quota, v15, .int .i64 t7.1.Last, .slice none 0 0] rfl rfl ?_
      have f111 := f105.ext (s103.ext)
      obtain ⟨A108, c109, hv110⟩ := (f111).slice
      have f115 := f106.ext (s103.ext)
      obtain ⟨A112, c113, hv114⟩ := (f115).slice
      have hb116 : ∀ w, (Instr.build 65 #[(0, .agg #[v13, .int .i64 t7.1.Quota, v15, .int .i64 t7.1.Last, .slice none 0 0]), (1, .agg #[v13, .int .i64 t7.1.Quota, v15, .int .i64 t7.1.Last, .slice none 0 0])]).run Tryd.prog w = .ok (.agg (List.toArray [v13, .int .i64 t7.1.Quota, v15, .int .i64 t7.1.Last, .slice none 0 0, v13, .int .i64 t7.1.Quota, v15, .int .i64 t7.1.Last, .slice none 0 0])) w := by intro  _; rw [hv110]; rw [hv114]; kernel_rfl
      refine wl_build [v13, .int .i64 t7.1.Quota, v15, .int .i64 t7.1.Last, .slice none 0 0, v13, .int .i64 t7.1.Quota, v15, .int .i64 t7.1.Last, .slice none 0 0] (pc rfl (pc rfl (pn _ _))) (hb116 _) ?_
      have B117 := ((B68.step0 s94).stepb s103 n100)
      refine wl_loadb B117 ty75 rfl [v47, v49, .int .i64 t40.1.Ledger.Half, .int .i64 t40.1.Ledger.Gen, .int .i64 t40.1.Ledger.Used, v51, v53, .int .i64 t40.1.Queue.Last, .int .i64 t40.1.Queue.Token] rfl rfl ?_
      obtain ⟨A118, c119, hv120⟩ := (f111).slice
      obtain ⟨A121, c122, hv123⟩ := (f115).slice
      have f127 := f69.ext (s67.ext.trans (s94.ext.trans (s103.ext)))
      obtain ⟨A124, c125, hv126⟩ := (f127).slice
      have f131 := f70.ext (s67.ext.trans (s94.ext.trans (s103.ext)))
      obtain ⟨A128, c129, hv130⟩ := (f131).slice
      have f135 := f71.ext (s67.ext.trans (s94.ext.trans (s103.ext)))
      obtain ⟨A132, c133, hv134⟩ := (f135).slice
      have f139 := f72.ext (s67.ext.trans (s94.ext.trans (s103.ext)))
      obtain ⟨A136, c137, hv138⟩ := (f139).slice
      have hb140 : ∀ w, (Instr.build 89 #[(0, .agg #[v13, .int .i64 t7.1.Quota, v15, .int .i64 t7.1.Last, .slice none 0 0, v13, .int .i64 t7.1.Quota, v15, .int .i64 t7.1.Last, .slice none 0 0]), (1, .agg #[v47, v49, .int .i64 t40.1.Ledger.Half, .int .i64 t40.1.Ledger.Gen, .int .i64 t40.1.Ledger.Used, v51, v53, .int .i64 t40.1.Queue.Last, .int .i64 t40.1.Queue.Token])]).run Tryd.prog w = .ok (.agg (List.toArray (v13 :: (.int .i64 t7.1.Quota) :: v15 :: (.int .i64 t7.1.Last) :: (.slice none 0 0) :: v13 :: (.int .i64 t7.1.Quota) :: v15 :: (.int .i64 t7.1.Last) :: (.slice none 0 0) :: v47 :: v49 :: (.int .i64 t40.1.Ledger.Half) :: (.int .i64 t40.1.Ledger.Gen) :: (.int .i64 t40.1.Ledger.Used) :: v51 :: v53 :: (.int .i64 t40.1.Queue.Last) :: (.int .i64 t40.1.Queue.Token) :: (.slice none 0 0) :: (.bool false) :: (.int .i64 0) :: (.string (bs [])) :: (.string (bs [])) :: (.int .i64 0) :: (.int .i64 0) :: (.int .i64 0) :: (.int .i64 0) :: (.int .i64 0) :: (.int .i64 0) :: (.int .i64 0) :: (.string (bs [])) :: (.string (bs [])) :: (.string (bs [])) :: (.bool false) :: (.bool false) :: (.int .i64 0) :: (.string (bs [])) :: (.slice none 0 0) :: (.slice none 0 0) :: (.int .i64 0) :: (.bool false) :: (.bool false) :: (.int .i64 0) :: (.string (bs [])) :: (.string (bs [])) :: (.int .i64 0) :: (.int .i64 0) :: (.int .i64 0) :: (.int .i64 0) :: (.int .i64 0) :: (.int .i64 0) :: (.int .i64 0) :: (.string (bs [])) :: (.string (bs [])) :: (.string (bs [])) :: (.bool false) :: (.bool false) :: (.int .i64 0) :: (.string (bs [])) :: (.slice none 0 0) :: (.slice none 0 0) :: (.int .i64 0) :: (.bool false) :: (.int .i64 0) :: []))) w := by intro  _; rw [hv120]; rw [hv123]; rw [hv126]; rw [hv130]; rw [hv134]; rw [hv138]; kernel_rfl
      refine wl_build (v13 :: (.int .i64 t7.1.Quota) :: v15 :: (.int .i64 t7.1.Last) :: (.slice none 0 0) :: v13 :: (.int .i64 t7.1.Quota) :: v15 :: (.int .i64 t7.1.Last) :: (.slice none 0 0) :: v47 :: v49 :: (.int .i64 t40.1.Ledger.Half) :: (.int .i64 t40.1.Ledger.Gen) :: (.int .i64 t40.1.Ledger.Used) :: v51 :: v53 :: (.int .i64 t40.1.Queue.Last) :: (.int .i64 t40.1.Queue.Token) :: (.slice none 0 0) :: (.bool false) :: (.int .i64 0) :: (.string (bs [])) :: (.string (bs [])) :: (.int .i64 0) :: (.int .i64 0) :: (.int .i64 0) :: (.int .i64 0) :: (.int .i64 0) :: (.int .i64 0) :: (.int .i64 0) :: (.string (bs [])) :: (.string (bs [])) :: (.string (bs [])) :: (.bool false) :: (.bool false) :: (.int .i64 0) :: (.string (bs [])) :: (.slice none 0 0) :: (.slice none 0 0) :: (.int .i64 0) :: (.bool false) :: (.bool false) :: (.int .i64 0) :: (.string (bs [])) :: (.string (bs [])) :: (.int .i64 0) :: (.int .i64 0) :: (.int .i64 0) :: (.int .i64 0) :: (.int .i64 0) :: (.int .i64 0) :: (.int .i64 0) :: (.string (bs [])) :: (.string (bs [])) :: (.string (bs [])) :: (.bool false) :: (.bool false) :: (.int .i64 0) :: (.string (bs [])) :: (.slice none 0 0) :: (.slice none 0 0) :: (.int .i64 0) :: (.bool false) :: (.int .i64 0) :: []) (pc rfl (pc rfl (pn _ _))) (hb140 _) ?_
      have B141 := ((B98.step0 s94).stepb s103 n97)
      refine wl_store B141 fr107.wf ty89 rfl [v13, .int .i64 t7.1.Quota, v15, .int .i64 t7.1.Last, .slice none 0 0, v13, .int .i64 t7.1.Quota, v15, .int .i64 t7.1.Last, .slice none 0 0, v47, v49, .int .i64 t40.1.Ledger.Half, .int .i64 t40.1.Ledger.Gen, .int .i64 t40.1.Ledger.Used, v51, v53, .int .i64 t40.1.Queue.Last, .int .i64 t40.1.Queue.Token, .slice none 0 0, .bool false, .int .i64 0, .string (bs []), .string (bs []), .int .i64 0, .int .i64 0, .int .i64 0, .int .i64 0, .int .i64 0, .int .i64 0, .int .i64 0, .string (bs []), .string (bs []), .string (bs []), .bool false, .bool false, .int .i64 0, .string (bs []), .slice none 0 0, .slice none 0 0, .int .i64 0, .bool false, .bool false, .int .i64 0, .string (bs []), .string (bs []), .int .i64 0, .int .i64 0, .int .i64 0, .int .i64 0, .int .i64 0, .int .i64 0, .int .i64 0, .string (bs []), .string (bs []), .string (bs []), .bool false, .bool false, .int .i64 0, .string (bs []), .slice none 0 0, .slice none 0 0, .int .i64 0, .bool false, .int .i64 0] (cells_of (v := (.agg #[v13, .int .i64 t7.1.Quota, v15, .int .i64 t7.1.Last, .slice none 0 0, v13, .int .i64 t7.1.Quota, v15, .int .i64 t7.1.Last, .slice none 0 0, v47, v49, .int .i64 t40.1.Ledger.Half, .int .i64 t40.1.Ledger.Gen, .int .i64 t40.1.Ledger.Used, v51, v53, .int .i64 t40.1.Queue.Last, .int .i64 t40.1.Queue.Token, .slice none 0 0, .bool false, .int .i64 0, .string (bs []), .string (bs []), .int .i64 0, .int .i64 0, .int .i64 0, .int .i64 0, .int .i64 0, .int .i64 0, .int .i64 0, .string (bs []), .string (bs []), .string (bs []), .bool false, .bool false, .int .i64 0, .string (bs []), .slice none 0 0, .slice none 0 0, .int .i64 0, .bool false, .bool false, .int .i64 0, .string (bs []), .string (bs []), .int .i64 0, .int .i64 0, .int .i64 0, .int .i64 0, .int .i64 0, .int .i64 0, .int .i64 0, .string (bs []), .string (bs []), .string (bs []), .bool false, .bool false, .int .i64 0, .string (bs []), .slice none 0 0, .slice none 0 0, .int .i64 0, .bool false, .int .i64 0])) rfl rfl) rfl (Nat.le_of_ble_eq_true rfl) (one_all [v13, .int .i64 t7.1.Quota, v15, .int .i64 t7.1.Last, .slice none 0 0, v13, .int .i64 t7.1.Quota, v15, .int .i64 t7.1.Last, .slice none 0 0, v47, v49, .int .i64 t40.1.Ledger.Half, .int .i64 t40.1.Ledger.Gen, .int .i64 t40.1.Ledger.Used, v51, v53, .int .i64 t40.1.Queue.Last, .int .i64 t40.1.Queue.Token, .slice none 0 0, .bool false, .int .i64 0, .string (bs []), .string (bs []), .int .i64 0, .int .i64 0, .int .i64 0, .int .i64 0, .int .i64 0, .int .i64 0, .int .i64 0, .string (bs []), .string (bs []), .string (bs []), .bool false, .bool false, .int .i64 0, .string (bs []), .slice none 0 0, .slice none 0 0, .int .i64 0, .bool false, .bool false, .int .i64 0, .string (bs []), .string (bs []), .int .i64 0, .int .i64 0, .int .i64 0, .int .i64 0, .int .i64 0, .int .i64 0, .int .i64 0, .string (bs []), .string (bs []), .string (bs []), .bool false, .bool false, .int .i64 0, .string (bs []), .slice none 0 0, .slice none 0 0, .int .i64 0, .bool false, .int .i64 0] (by simp only [List.all_cons, List.all_nil, Bool.and_true, Bool.true_and, row_one f111, row_one f115, row_one f111, row_one f115, row_one f127, row_one f131, row_one f135, row_one f139] <;> rfl)) [v13, .int .i64 t7.1.Quota, v15, .int .i64 t7.1.Last, .slice none 0 0, v13, .int .i64 t7.1.Quota, v15, .int .i64 t7.1.Last, .slice none 0 0, v47, v49, .int .i64 t40.1.Ledger.Half, .int .i64 t40.1.Ledger.Gen, .int .i64 t40.1.Ledger.Used, v51, v53, .int .i64 t40.1.Queue.Last, .int .i64 t40.1.Queue.Token, .slice none 0 0, .bool false, .int .i64 0, .string (bs []), .string (bs []), .int .i64 0, .int .i64 0, .int .i64 0, .int .i64 0, .int .i64 0, .int .i64 0, .int .i64 0, .string (bs []), .string (bs []), .string (bs []), .bool false, .bool false, .int .i64 0, .string (bs []), .slice none 0 0, .slice none 0 0, .int .i64 0, .bool false, .bool false, .int .i64 0, .string (bs []), .string (bs []), .int .i64 0, .int .i64 0, .int .i64 0, .int .i64 0, .int .i64 0, .int .i64 0, .int .i64 0, .string (bs []), .string (bs []), .string (bs []), .bool false, .bool false, .int .i64 0, .string (bs []), .slice none 0 0, .slice none 0 0, .int .i64 0, .bool false, .int .i64 0] rfl ?_
      intro w142 s143 B144
      have fr145 := fr107.then s143 (fun _ e => (Option.some.inj e ▸ B141.new))
      refine wl_assign (.int .i64 0) rfl ?_
      refine wl_nil ?_
      refine qn ?_
      refine wc_ret ?_
      have f146 := f111.ext (s143.ext)
      have f147 := f115.ext (s143.ext)
      have f148 := f127.ext (s143.ext)
      have f149 := f131.ext (s143.ext)
      have f150 := f135.ext (s143.ext)
      have f151 := f139.ext (s143.ext)
      have h := Option.some.inj h
      subst h
      refine end2 rfl (.cell rfl (ty89.load (l := [v13, .int .i64 t7.1.Quota, v15, .int .i64 t7.1.Last, .slice none 0 0, v13, .int .i64 t7.1.Quota, v15, .int .i64 t7.1.Last, .slice none 0 0, v47, v49, .int .i64 t40.1.Ledger.Half, .int .i64 t40.1.Ledger.Gen, .int .i64 t40.1.Ledger.Used, v51, v53, .int .i64 t40.1.Queue.Last, .int .i64 t40.1.Queue.Token, .slice none 0 0, .bool false, .int .i64 0, .string (bs []), .string (bs []), .int .i64 0, .int .i64 0, .int .i64 0, .int .i64 0, .int .i64 0, .int .i64 0, .int .i64 0, .string (bs []), .string (bs []), .string (bs []), .bool false, .bool false, .int .i64 0, .string (bs []), .slice none 0 0, .slice none 0 0, .int .i64 0, .bool false, .bool false, .int .i64 0, .string (bs []), .string (bs []), .int .i64 0, .int .i64 0, .int .i64 0, .int .i64 0, .int .i64 0, .int .i64 0, .int .i64 0, .string (bs []), .string (bs []), .string (bs []), .bool false, .bool false, .int .i64 0, .string (bs []), .slice none 0 0, .slice none 0 0, .int .i64 0, .bool false, .int .i64 0]) rfl (B144.cells rfl)) (.tmp rfl .nil)) ?_
      exact ⟨v13, v15, (.slice none 0 0), v13, v15, (.slice none 0 0), v47, v49, v51, v53, (.slice none 0 0), (.slice none 0 0), (.slice none 0 0), (.slice none 0 0), (.slice none 0 0), _, rfl, fr145, f146, f147, (Row.nil _ _ _), f146, f147, (Row.nil _ _ _), f148, f149, f150, f151, (Row.nil _ _ _), (Row.nil _ _ _), (Row.nil _ _ _), (Row.nil _ _ _), (Row.nil _ _ _)⟩
/-! ### consignor/script.begins: function 16 -/
def script_begins.f (k : Nat) (a0 : ApiPlan) : Option Bool := (control_New.f k a0.Quota a0.Sectors).bind fun t7 => (some (((((decide (0 ≤ a0.Quota)) && (decide (a0.Quota ≤ 1048576))) && (decide (0 ≤ a0.Sectors))) && (decide (a0.Sectors ≤ 1048576))) && (t7.2 == 0)))
set_option maxRecDepth 100000 in
set_option maxHeartbeats 1000000 in
theorem script_begins.ok (k : Nat) {w0 : World} {hw0 : Hw} (wf : Hwf w0 hw0) (a0 : ApiPlan) (v0_2 : Value) (q0_2 : Row KApiDeed w0 hw0 v0_2 a0.Deeds) (r : Bool) (h : script_begins.f k a0 = some r) :
    Calls Tryd.prog 16 #[.agg #[.int .i64 a0.Quota, .int .i64 a0.Sectors, v0_2]] w0 fun e w' => ∃ (hw' : Hw), e = .returned (.bool r) ∧ Stp none w0 hw0 w' hw' := by
  have fr0 := Stp.refl none (w := w0) (hw := hw0) wf
  unfold script_begins.f at h
  refine enter (n := 35) Tryd.func16 rfl rfl (Nat.le_of_ble_eq_true rfl) ?_
  refine wc_seq ?_
  refine wc_region ?_
  refine wl_box fr0.wf fr0.g.size [.int .i64 a0.Quota, .int .i64 a0.Sectors, v0_2] (cells_of (v := (.agg #[.int .i64 a0.Quota, .int .i64 a0.Sectors, v0_2])) rfl rfl) ?_
  intro b1 w2 s3 B4 g5
  have fr6 := fr0.then0 s3
  refine wl_assign (.bool false) rfl ?_
  refine wl_nil ?_
  refine qn ?_
  refine wc_seq ?_
  refine wc_region ?_
  refine wl_field fld24_0 rfl ?_
  refine wl_loadb1 B4 ty3 rfl (.int .i64 a0.Quota) rfl ?_
  refine wl_field fld24_1 rfl ?_
  refine wl_loadb1 B4 ty3 rfl (.int .i64 a0.Sectors) rfl ?_
  obtain ⟨t7, h8, h⟩ := Option.bind_eq_some_iff.1 h
  refine wl_call [.int .i64 a0.Quota, .int .i64 a0.Sectors] bod26 (mc rfl (mc rfl (mn _))) (control_New.ok k fr6.wf a0.Quota a0.Sectors _ h8) ?_
  rintro e9 w10 ⟨v13, v15, v17, v19, v21, v23, v25, v27, v29, v31, v33, v35, v37, v39, v41, hw11, rfl, s12, f14, f16, f18, f20, f22, f24, f26, f28, f30, f32, f34, f36, f38, f40, f42⟩
  refine ⟨_, rfl, ?_⟩
  have fr43 := fr6.then0 s12
  refine wl_move (.tuple #[.agg #[v13, .int .i64 t7.1.Regs.e0.Blobs.Quota, v15, .int .i64 t7.1.Regs.e0.Blobs.Last, v17, v19, .int .i64 t7.1.Regs.e1.Blobs.Quota, v21, .int .i64 t7.1.Regs.e1.Blobs.Last, v23, v25, v27, .int .i64 t7.1.Vault.Ledger.Half, .int .i64 t7.1.Vault.Ledger.Gen, .int .i64 t7.1.Vault.Ledger.Used, v29, v31, .int .i64 t7.1.Vault.Queue.Last, .int .i64 t7.1.Vault.Queue.Token, v33, .bool t7.1.Hands.e0.Busy, .int .i64 t7.1.Hands.e0.Job.Id, .string (bs t7.1.Hands.e0.Job.Key), .string (bs t7.1.Hands.e0.Job.Body), .int .i64 t7.1.Hands.e0.Job.State, .int .i64 t7.1.Hands.e0.Job.Tries, .int .i64 t7.1.Hands.e0.Job.Token, .int .i64 t7.1.Hands.e0.Job.Until, .int .i64 t7.1.Hands.e0.Job.Point, .int .i64 t7.1.Hands.e0.Work.Task.Rule, .int .i64 t7.1.Hands.e0.Work.Task.From, .string (bs t7.1.Hands.e0.Work.Task.Repo), .string (bs t7.1.Hands.e0.Work.Task.Tag), .string (bs t7.1.Hands.e0.Work.Task.To), .bool t7.1.Hands.e0.Work.Task.Override, .bool t7.1.Hands.e0.Work.Task.Delete, .int .i64 t7.1.Hands.e0.Work.Point, .string (bs t7.1.Hands.e0.Work.Digest), v35, v37, .int .i64 t7.1.Hands.e0.Work.Upload, .bool t7.1.Hands.e0.Work.Ends, .bool t7.1.Hands.e1.Busy, .int .i64 t7.1.Hands.e1.Job.Id, .string (bs t7.1.Hands.e1.Job.Key), .string (bs t7.1.Hands.e1.Job.Body), .int .i64 t7.1.Hands.e1.Job.State, .int .i64 t7.1.Hands.e1.Job.Tries, .int .i64 t7.1.Hands.e1.Job.Token, .int .i64 t7.1.Hands.e1.Job.Until, .int .i64 t7.1.Hands.e1.Job.Point, .int .i64 t7.1.Hands.e1.Work.Task.Rule, .int .i64 t7.1.Hands.e1.Work.Task.From, .string (bs t7.1.Hands.e1.Work.Task.Repo), .string (bs t7.1.Hands.e1.Work.Task.Tag), .string (bs t7.1.Hands.e1.Work.Task.To), .bool t7.1.Hands.e1.Work.Task.Override, .bool t7.1.Hands.e1.Work.Task.Delete, .int .i64 t7.1.Hands.e1.Work.Point, .string (bs t7.1.Hands.e1.Work.Digest), v39, v41, .int .i64 t7.1.Hands.e1.Work.Upload, .bool t7.1.Hands.e1.Work.Ends, .int .i64 t7.1.Now], .int .i64 t7.2]) rfl ?_
  refine wl_extract (vs := [.agg #[v13, .int .i64 t7.1.Regs.e0.Blobs.Quota, v15, .int .i64 t7.1.Regs.e0.Blobs.Last, v17, v19, .int .i64 t7.1.Regs.e1.Blobs.Quota, v21, .int .i64 t7.1.Regs.e1.Blobs.Last, v23, v25, v27, .int .i64 t7.1.Vault.Ledger.Half, .int .i64 t7.1.Vault.Ledger.Gen, .int .i64 t7.1.Vault.Ledger.Used, v29, v31, .int .i64 t7.1.Vault.Queue.Last, .int .i64 t7.1.Vault.Queue.Token, v33, .bool t7.1.Hands.e0.Busy, .int .i64 t7.1.Hands.e0.Job.Id, .string (bs t7.1.Hands.e0.Job.Key), .string (bs t7.1.Hands.e0.Job.Body), .int .i64 t7.1.Hands.e0.Job.State, .int .i64 t7.1.Hands.e0.Job.Tries, .int .i64 t7.1.Hands.e0.Job.Token, .int .i64 t7.1.Hands.e0.Job.Until, .int .i64 t7.1.Hands.e0.Job.Point, .int .i64 t7.1.Hands.e0.Work.Task.Rule, .int .i64 t7.1.Hands.e0.Work.Task.From, .string (bs t7.1.Hands.e0.Work.Task.Repo), .string (bs t7.1.Hands.e0.Work.Task.Tag), .string (bs t7.1.Hands.e0.Work.Task.To), .bool t7.1.Hands.e0.Work.Task.Override, .bool t7.1.Hands.e0.Work.Task.Delete, .int .i64 t7.1.Hands.e0.Work.Point, .string (bs t7.1.Hands.e0.Work.Digest), v35, v37, .int .i64 t7.1.Hands.e0.Work.Upload, .bool t7.1.Hands.e0.Work.Ends, .bool t7.1.Hands.e1.Busy, .int .i64 t7.1.Hands.e1.Job.Id, .string (bs t7.1.Hands.e1.Job.Key), .string (bs t7.1.Hands.e1.Job.Body), .int .i64 t7.1.Hands.e1.Job.State, .int .i64 t7.1.Hands.e1.Job.Tries, .int .i64 t7.1.Hands.e1.Job.Token, .int .i64 t7.1.Hands.e1.Job.Until, .int .i64 t7.1.Hands.e1.Job.Point, .int .i64 t7.1.Hands.e1.Work.Task.Rule, .int .i64 t7.1.Hands.e1.Work.Task.From, .string (bs t7.1.Hands.e1.Work.Task.Repo), .string (bs t7.1.Hands.e1.Work.Task.Tag), .string (bs t7.1.Hands.e1.Work.Task.To), .bool t7.1.Hands.e1.Work.Task.Override, .bool t7.1.Hands.e1.Work.Task.Delete, .int .i64 t7.1.Hands.e1.Work.Point, .string (bs t7.1.Hands.e1.Work.Digest), v39, v41, .int .i64 t7.1.Hands.e1.Work.Upload, .bool t7.1.Hands.e1.Work.Ends, .int .i64 t7.1.Now], .int .i64 t7.2]) (.agg #[v13, .int .i64 t7.1.Regs.e0.Blobs.Quota, v15, .int .i64 t7.1.Regs.e0.Blobs.Last, v17, v19, .int .i64 t7.1.Regs.e1.Blobs.Quota, v21, .int .i64 t7.1.Regs.e1.Blobs.Last, v23, v25, v27, .int .i64 t7.1.Vault.Ledger.Half, .int .i64 t7.1.Vault.Ledger.Gen, .int .i64 t7.1.Vault.Ledger.Used, v29, v31, .int .i64 t7.1.Vault.Queue.Last, .int .i64 t7.1.Vault.Queue.Token, v33, .bool t7.1.Hands.e0.Busy, .int .i64 t7.1.Hands.e0.Job.Id, .string (bs t7.1.Hands.e0.Job.Key), .string (bs t7.1.Hands.e0.Job.Body), .int .i64 t7.1.Hands.e0.Job.State, .int .i64 t7.1.Hands.e0.Job.Tries, .int .i64 t7.1.Hands.e0.Job.Token, .int .i64 t7.1.Hands.e0.Job.Until, .int .i64 t7.1.Hands.e0.Job.Point, .int .i64 t7.1.Hands.e0.Work.Task.Rule, .int .i64 t7.1.Hands.e0.Work.Task.From, .string (bs t7.1.Hands.e0.Work.Task.Repo), .string (bs t7.1.Hands.e0.Work.Task.Tag), .string (bs t7.1.Hands.e0.Work.Task.To), .bool t7.1.Hands.e0.Work.Task.Override, .bool t7.1.Hands.e0.Work.Task.Delete, .int .i64 t7.1.Hands.e0.Work.Point, .string (bs t7.1.Hands.e0.Work.Digest), v35, v37, .int .i64 t7.1.Hands.e0.Work.Upload, .bool t7.1.Hands.e0.Work.Ends, .bool t7.1.Hands.e1.Busy, .int .i64 t7.1.Hands.e1.Job.Id, .string (bs t7.1.Hands.e1.Job.Key), .string (bs t7.1.Hands.e1.Job.Body), .int .i64 t7.1.Hands.e1.Job.State, .int .i64 t7.1.Hands.e1.Job.Tries, .int .i64 t7.1.Hands.e1.Job.Token, .int .i64 t7.1.Hands.e1.Job.Until, .int .i64 t7.1.Hands.e1.Job.Point, .int .i64 t7.1.Hands.e1.Work.Task.Rule, .int .i64 t7.1.Hands.e1.Work.Task.From, .string (bs t7.1.Hands.e1.Work.Task.Repo), .string (bs t7.1.Hands.e1.Work.Task.Tag), .string (bs t7.1.Hands.e1.Work.Task.To), .bool t7.1.Hands.e1.Work.Task.Override, .bool t7.1.Hands.e1.Work.Task.Delete, .int .i64 t7.1.Hands.e1.Work.Point, .string (bs t7.1.Hands.e1.Work.Digest), v39, v41, .int .i64 t7.1.Hands.e1.Work.Upload, .bool t7.1.Hands.e1.Work.Ends, .int .i64 t7.1.Now]) rfl rfl ?_
  refine wl_extract (vs := [.agg #[v13, .int .i64 t7.1.Regs.e0.Blobs.Quota, v15, .int .i64 t7.1.Regs.e0.Blobs.Last, v17, v19, .int .i64 t7.1.Regs.e1.Blobs.Quota, v21, .int .i64 t7.1.Regs.e1.Blobs.Last, v23, v25, v27, .int .i64 t7.1.Vault.Ledger.Half, .int .i64 t7.1.Vault.Ledger.Gen, .int .i64 t7.1.Vault.Ledger.Used, v29, v31, .int .i64 t7.1.Vault.Queue.Last, .int .i64 t7.1.Vault.Queue.Token, v33, .bool t7.1.Hands.e0.Busy, .int .i64 t7.1.Hands.e0.Job.Id, .string (bs t7.1.Hands.e0.Job.Key), .string (bs t7.1.Hands.e0.Job.Body), .int .i64 t7.1.Hands.e0.Job.State, .int .i64 t7.1.Hands.e0.Job.Tries, .int .i64 t7.1.Hands.e0.Job.Token, .int .i64 t7.1.Hands.e0.Job.Until, .int .i64 t7.1.Hands.e0.Job.Point, .int .i64 t7.1.Hands.e0.Work.Task.Rule, .int .i64 t7.1.Hands.e0.Work.Task.From, .string (bs t7.1.Hands.e0.Work.Task.Repo), .string (bs t7.1.Hands.e0.Work.Task.Tag), .string (bs t7.1.Hands.e0.Work.Task.To), .bool t7.1.Hands.e0.Work.Task.Override, .bool t7.1.Hands.e0.Work.Task.Delete, .int .i64 t7.1.Hands.e0.Work.Point, .string (bs t7.1.Hands.e0.Work.Digest), v35, v37, .int .i64 t7.1.Hands.e0.Work.Upload, .bool t7.1.Hands.e0.Work.Ends, .bool t7.1.Hands.e1.Busy, .int .i64 t7.1.Hands.e1.Job.Id, .string (bs t7.1.Hands.e1.Job.Key), .string (bs t7.1.Hands.e1.Job.Body), .int .i64 t7.1.Hands.e1.Job.State, .int .i64 t7.1.Hands.e1.Job.Tries, .int .i64 t7.1.Hands.e1.Job.Token, .int .i64 t7.1.Hands.e1.Job.Until, .int .i64 t7.1.Hands.e1.Job.Point, .int .i64 t7.1.Hands.e1.Work.Task.Rule, .int .i64 t7.1.Hands.e1.Work.Task.From, .string (bs t7.1.Hands.e1.Work.Task.Repo), .string (bs t7.1.Hands.e1.Work.Task.Tag), .string (bs t7.1.Hands.e1.Work.Task.To), .bool t7.1.Hands.e1.Work.Task.Override, .bool t7.1.Hands.e1.Work.Task.Delete, .int .i64 t7.1.Hands.e1.Work.Point, .string (bs t7.1.Hands.e1.Work.Digest), v39, v41, .int .i64 t7.1.Hands.e1.Work.Upload, .bool t7.1.Hands.e1.Work.Ends, .int .i64 t7.1.Now], .int .i64 t7.2]) (.int .i64 t7.2) rfl rfl ?_
  refine wl_alloc fr43.wf fr43.g.size ty89 [.slice none 0 0, .int .i64 0, .slice none 0 0, .int .i64 0, .slice none 0 0, .slice none 0 0, .int .i64 0, .slice none 0 0, .int .i64 0, .slice none 0 0, .slice none 0 0, .slice none 0 0, .int .i64 0, .int .i64 0, .int .i64 0, .slice none 0 0, .slice none 0 0, .int .i64 0, .int .i64 0, .slice none 0 0, .bool false, .int .i64 0, .string (bs []), .string (bs []), .int .i64 0, .int .i64 0, .int .i64 0, .int .i64 0, .int .i64 0, .int .i64 0, .int .i64 0, .string (bs []), .string (bs []), .string (bs []), .bool false, .bool false, .int .i64 0, .string (bs []), .slice none 0 0, .slice none 0 0, .int .i64 0, .bool false, .bool false, .int .i64 0, .string (bs []), .string (bs []), .int .i64 0, .int .i64 0, .int .i64 0, .int .i64 0, .int .i64 0, .int .i64 0, .int .i64 0, .string (bs []), .string (bs []), .string (bs []), .bool false, .bool false, .int .i64 0, .string (bs []), .slice none 0 0, .slice none 0 0, .int .i64 0, .bool false, .int .i64 0] rfl ?_
  intro b44 w45 s46 B47 g48
  have B50 := (B4.step0 s12)
  have n49 : b1 ≠ b44 := B50.ne g48
  have fr51 := fr43.then0 s46
  have f55 := f14.ext (s46.ext)
  have f56 := f16.ext (s46.ext)
  have f57 := f18.ext (s46.ext)
  have f58 := f20.ext (s46.ext)
  have f59 := f22.ext (s46.ext)
  have f60 := f24.ext (s46.ext)
  have f61 := f26.ext (s46.ext)
  have f62 := f28.ext (s46.ext)
  have f63 := f30.ext (s46.ext)
  have f64 := f32.ext (s46.ext)
  have f65 := f34.ext (s46.ext)
  have f66 := f36.ext (s46.ext)
  have f67 := f38.ext (s46.ext)
  have f68 := f40.ext (s46.ext)
  have f69 := f42.ext (s46.ext)
  refine wl_store B47 fr51.wf ty89 rfl [v13, .int .i64 t7.1.Regs.e0.Blobs.Quota, v15, .int .i64 t7.1.Regs.e0.Blobs.Last, v17, v19, .int .i64 t7.1.Regs.e1.Blobs.Quota, v21, .int .i64 t7.1.Regs.e1.Blobs.Last, v23, v25, v27, .int .i64 t7.1.Vault.Ledger.Half, .int .i64 t7.1.Vault.Ledger.Gen, .int .i64 t7.1.Vault.Ledger.Used, v29, v31, .int .i64 t7.1.Vault.Queue.Last, .int .i64 t7.1.Vault.Queue.Token, v33, .bool t7.1.Hands.e0.Busy, .int .i64 t7.1.Hands.e0.Job.Id, .string (bs t7.1.Hands.e0.Job.Key), .string (bs t7.1.Hands.e0.Job.Body), .int .i64 t7.1.Hands.e0.Job.State, .int .i64 t7.1.Hands.e0.Job.Tries, .int .i64 t7.1.Hands.e0.Job.Token, .int .i64 t7.1.Hands.e0.Job.Until, .int .i64 t7.1.Hands.e0.Job.Point, .int .i64 t7.1.Hands.e0.Work.Task.Rule, .int .i64 t7.1.Hands.e0.Work.Task.From, .string (bs t7.1.Hands.e0.Work.Task.Repo), .string (bs t7.1.Hands.e0.Work.Task.Tag), .string (bs t7.1.Hands.e0.Work.Task.To), .bool t7.1.Hands.e0.Work.Task.Override, .bool t7.1.Hands.e0.Work.Task.Delete, .int .i64 t7.1.Hands.e0.Work.Point, .string (bs t7.1.Hands.e0.Work.Digest), v35, v37, .int .i64 t7.1.Hands.e0.Work.Upload, .bool t7.1.Hands.e0.Work.Ends, .bool t7.1.Hands.e1.Busy, .int .i64 t7.1.Hands.e1.Job.Id, .string (bs t7.1.Hands.e1.Job.Key), .string (bs t7.1.Hands.e1.Job.Body), .int .i64 t7.1.Hands.e1.Job.State, .int .i64 t7.1.Hands.e1.Job.Tries, .int .i64 t7.1.Hands.e1.Job.Token, .int .i64 t7.1.Hands.e1.Job.Until, .int .i64 t7.1.Hands.e1.Job.Point, .int .i64 t7.1.Hands.e1.Work.Task.Rule, .int .i64 t7.1.Hands.e1.Work.Task.From, .string (bs t7.1.Hands.e1.Work.Task.Repo), .string (bs t7.1.Hands.e1.Work.Task.Tag), .string (bs t7.1.Hands.e1.Work.Task.To), .bool t7.1.Hands.e1.Work.Task.Override, .bool t7.1.Hands.e1.Work.Task.Delete, .int .i64 t7.1.Hands.e1.Work.Point, .string (bs t7.1.Hands.e1.Work.Digest), v39, v41, .int .i64 t7.1.Hands.e1.Work.Upload, .bool t7.1.Hands.e1.Work.Ends, .int .i64 t7.1.Now] (cells_of (v := (.agg #[v13, .int .i64 t7.1.Regs.e0.Blobs.Quota, v15, .int .i64 t7.1.Regs.e0.Blobs.Last, v17, v19, .int .i64 t7.1.Regs.e1.Blobs.Quota, v21, .int .i64 t7.1.Regs.e1.Blobs.Last, v23, v25, v27, .int .i64 t7.1.Vault.Ledger.Half, .int .i64 t7.1.Vault.Ledger.Gen, .int .i64 t7.1.Vault.Ledger.Used, v29, v31, .int .i64 t7.1.Vault.Queue.Last, .int .i64 t7.1.Vault.Queue.Token, v33, .bool t7.1.Hands.e0.Busy, .int .i64 t7.1.Hands.e0.Job.Id, .string (bs t7.1.Hands.e0.Job.Key), .string (bs t7.1.Hands.e0.Job.Body), .int .i64 t7.1.Hands.e0.Job.State, .int .i64 t7.1.Hands.e0.Job.Tries, .int .i64 t7.1.Hands.e0.Job.Token, .int .i64 t7.1.Hands.e0.Job.Until, .int .i64 t7.1.Hands.e0.Job.Point, .int .i64 t7.1.Hands.e0.Work.Task.Rule, .int .i64 t7.1.Hands.e0.Work.Task.From, .string (bs t7.1.Hands.e0.Work.Task.Repo), .string (bs t7.1.Hands.e0.Work.Task.Tag), .string (bs t7.1.Hands.e0.Work.Task.To), .bool t7.1.Hands.e0.Work.Task.Override, .bool t7.1.Hands.e0.Work.Task.Delete, .int .i64 t7.1.Hands.e0.Work.Point, .string (bs t7.1.Hands.e0.Work.Digest), v35, v37, .int .i64 t7.1.Hands.e0.Work.Upload, .bool t7.1.Hands.e0.Work.Ends, .bool t7.1.Hands.e1.Busy, .int .i64 t7.1.Hands.e1.Job.Id, .string (bs t7.1.Hands.e1.Job.Key), .string (bs t7.1.Hands.e1.Job.Body), .int .i64 t7.1.Hands.e1.Job.State, .int .i64 t7.1.Hands.e1.Job.Tries, .int .i64 t7.1.Hands.e1.Job.Token, .int .i64 t7.1.Hands.e1.Job.Until, .int .i64 t7.1.Hands.e1.Job.Point, .int .i64 t7.1.Hands.e1.Work.Task.Rule, .int .i64 t7.1.Hands.e1.Work.Task.From, .string (bs t7.1.Hands.e1.Work.Task.Repo), .string (bs t7.1.Hands.e1.Work.Task.Tag), .string (bs t7.1.Hands.e1.Work.Task.To), .bool t7.1.Hands.e1.Work.Task.Override, .bool t7.1.Hands.e1.Work.Task.Delete, .int .i64 t7.1.Hands.e1.Work.Point, .string (bs t7.1.Hands.e1.Work.Digest), v39, v41, .int .i64 t7.1.Hands.e1.Work.Upload, .bool t7.1.Hands.e1.Work.Ends, .int .i64 t7.1.Now])) rfl rfl) rfl (Nat.le_of_ble_eq_true rfl) (one_all [v13, .int .i64 t7.1.Regs.e0.Blobs.Quota, v15, .int .i64 t7.1.Regs.e0.Blobs.Last, v17, v19, .int .i64 t7.1.Regs.e1.Blobs.Quota, v21, .int .i64 t7.1.Regs.e1.Blobs.Last, v23, v25, v27, .int .i64 t7.1.Vault.Ledger.Half, .int .i64 t7.1.Vault.Ledger.Gen, .int .i64 t7.1.Vault.Ledger.Used, v29, v31, .int .i64 t7.1.Vault.Queue.Last, .int .i64 t7.1.Vault.Queue.Token, v33, .bool t7.1.Hands.e0.Busy, .int .i64 t7.1.Hands.e0.Job.Id, .string (bs t7.1.Hands.e0.Job.Key), .string (bs t7.1.Hands.e0.Job.Body), .int .i64 t7.1.Hands.e0.Job.State, .int .i64 t7.1.Hands.e0.Job.Tries, .int .i64 t7.1.Hands.e0.Job.Token, .int .i64 t7.1.Hands.e0.Job.Until, .int .i64 t7.1.Hands.e0.Job.Point, .int .i64 t7.1.Hands.e0.Work.Task.Rule, .int .i64 t7.1.Hands.e0.Work.Task.From, .string (bs t7.1.Hands.e0.Work.Task.Repo), .string (bs t7.1.Hands.e0.Work.Task.Tag), .string (bs t7.1.Hands.e0.Work.Task.To), .bool t7.1.Hands.e0.Work.Task.Override, .bool t7.1.Hands.e0.Work.Task.Delete, .int .i64 t7.1.Hands.e0.Work.Point, .string (bs t7.1.Hands.e0.Work.Digest), v35, v37, .int .i64 t7.1.Hands.e0.Work.Upload, .bool t7.1.Hands.e0.Work.Ends, .bool t7.1.Hands.e1.Busy, .int .i64 t7.1.Hands.e1.Job.Id, .string (bs t7.1.Hands.e1.Job.Key), .string (bs t7.1.Hands.e1.Job.Body), .int .i64 t7.1.Hands.e1.Job.State, .int .i64 t7.1.Hands.e1.Job.Tries, .int .i64 t7.1.Hands.e1.Job.Token, .int .i64 t7.1.Hands.e1.Job.Until, .int .i64 t7.1.Hands.e1.Job.Point, .int .i64 t7.1.Hands.e1.Work.Task.Rule, .int .i64 t7.1.Hands.e1.Work.Task.From, .string (bs t7.1.Hands.e1.Work.Task.Repo), .string (bs t7.1.Hands.e1.Work.Task.Tag), .string (bs t7.1.Hands.e1.Work.Task.To), .bool t7.1.Hands.e1.Work.Task.Override, .bool t7.1.Hands.e1.Work.Task.Delete, .int .i64 t7.1.Hands.e1.Work.Point, .string (bs t7.1.Hands.e1.Work.Digest), v39, v41, .int .i64 t7.1.Hands.e1.Work.Upload, .bool t7.1.Hands.e1.Work.Ends, .int .i64 t7.1.Now] (by simp only [List.all_cons, List.all_nil, Bool.and_true, Bool.true_and, row_one f55, row_one f56, row_one f57, row_one f58, row_one f59, row_one f60, row_one f61, row_one f62, row_one f63, row_one f64, row_one f65, row_one f66, row_one f67, row_one f68, row_one f69] <;> rfl)) [v13, .int .i64 t7.1.Regs.e0.Blobs.Quota, v15, .int .i64 t7.1.Regs.e0.Blobs.Last, v17, v19, .int .i64 t7.1.Regs.e1.Blobs.Quota, v21, .int .i64 t7.1.Regs.e1.Blobs.Last, v23, v25, v27, .int .i64 t7.1.Vault.Ledger.Half, .int .i64 t7.1.Vault.Ledger.Gen, .int .i64 t7.1.Vault.Ledger.Used, v29, v31, .int .i64 t7.1.Vault.Queue.Last, .int .i64 t7.1.Vault.Queue.Token, v33, .bool t7.1.Hands.e0.Busy, .int .i64 t7.1.Hands.e0.Job.Id, .string (bs t7.1.Hands.e0.Job.Key), .string (bs t7.1.Hands.e0.Job.Body), .int .i64 t7.1.Hands.e0.Job.State, .int .i64 t7.1.Hands.e0.Job.Tries, .int .i64 t7.1.Hands.e0.Job.Token, .int .i64 t7.1.Hands.e0.Job.Until, .int .i64 t7.1.Hands.e0.Job.Point, .int .i64 t7.1.Hands.e0.Work.Task.Rule, .int .i64 t7.1.Hands.e0.Work.Task.From, .string (bs t7.1.Hands.e0.Work.Task.Repo), .string (bs t7.1.Hands.e0.Work.Task.Tag), .string (bs t7.1.Hands.e0.Work.Task.To), .bool t7.1.Hands.e0.Work.Task.Override, .bool t7.1.Hands.e0.Work.Task.Delete, .int .i64 t7.1.Hands.e0.Work.Point, .string (bs t7.1.Hands.e0.Work.Digest), v35, v37, .int .i64 t7.1.Hands.e0.Work.Upload, .bool t7.1.Hands.e0.Work.Ends, .bool t7.1.Hands.e1.Busy, .int .i64 t7.1.Hands.e1.Job.Id, .string (bs t7.1.Hands.e1.Job.Key), .string (bs t7.1.Hands.e1.Job.Body), .int .i64 t7.1.Hands.e1.Job.State, .int .i64 t7.1.Hands.e1.Job.Tries, .int .i64 t7.1.Hands.e1.Job.Token, .int .i64 t7.1.Hands.e1.Job.Until, .int .i64 t7.1.Hands.e1.Job.Point, .int .i64 t7.1.Hands.e1.Work.Task.Rule, .int .i64 t7.1.Hands.e1.Work.Task.From, .string (bs t7.1.Hands.e1.Work.Task.Repo), .string (bs t7.1.Hands.e1.Work.Task.Tag), .string (bs t7.1.Hands.e1.Work.Task.To), .bool t7.1.Hands.e1.Work.Task.Override, .bool t7.1.Hands.e1.Work.Task.Delete, .int .i64 t7.1.Hands.e1.Work.Point, .string (bs t7.1.Hands.e1.Work.Digest), v39, v41, .int .i64 t7.1.Hands.e1.Work.Upload, .bool t7.1.Hands.e1.Work.Ends, .int .i64 t7.1.Now] rfl ?_
  intro w52 s53 B54
  have fr70 := fr51.then s53 (fun _ e => (Option.some.inj e ▸ B47.new))
  refine wl_assign (.int .i64 t7.2) rfl ?_
  refine wl_nil ?_
  refine qn ?_
  refine wc_seq ?_
  refine wc_region ?_
  refine wl_field fld24_0 rfl ?_
  have B71 := ((B50.step0 s46).stepb s53 n49)
  refine wl_loadb1 B71 ty3 rfl (.int .i64 a0.Quota) rfl ?_
  refine wl_geq rfl rfl ?_
  refine wl_move (.bool (decide (0 ≤ a0.Quota))) rfl ?_
  refine wl_join 4 [17, 18, 19, 20] 20 (.bool ((decide (0 ≤ a0.Quota)) && (decide (a0.Quota ≤ 1048576)))) ?_ ?_
  · rcases Bool.eq_false_or_eq_true (decide (0 ≤ a0.Quota)) with hcc | hcc
    · skip
      refine wl_on (yl rfl rfl rfl) hcc ?_
      refine wl_field fld24_0 rfl ?_
      refine wl_on (yl rfl rfl rfl) hcc ?_
      refine wl_loadb1 B71 ty3 rfl (.int .i64 a0.Quota) rfl ?_
      refine wl_on (yl rfl rfl rfl) hcc ?_
      refine wl_leq rfl rfl ?_
      refine wl_pick_t (decide (0 ≤ a0.Quota)) (.bool (decide (a0.Quota ≤ 1048576))) rfl hcc rfl ?_
      refine wl_nil ?_
      exact qn ⟨rfl, _, rfl, (by repeat (first | exact Same.refl _ _ | refine Same.upd ?_ rfl)), (by rw [hcc]; rfl)⟩
    · skip
      refine wl_off (yl rfl rfl rfl) hcc ?_
      refine wl_off (yl rfl rfl rfl) hcc ?_
      refine wl_off (yl rfl rfl rfl) hcc ?_
      refine wl_pick_f (decide (0 ≤ a0.Quota)) (.bool false) rfl hcc rfl ?_
      refine wl_nil ?_
      exact qn ⟨rfl, _, rfl, (by repeat (first | exact Same.refl _ _ | refine Same.upd ?_ rfl)), (by rw [hcc]; rfl)⟩
  intro _ ho72 hv73
  refine wl_move (.bool ((decide (0 ≤ a0.Quota)) && (decide (a0.Quota ≤ 1048576)))) hv73 ?_
  refine wl_join 4 [22, 23, 24, 25] 25 (.bool (((decide (0 ≤ a0.Quota)) && (decide (a0.Quota ≤ 1048576))) && (decide (0 ≤ a0.Sectors)))) ?_ ?_
  · rcases Bool.eq_false_or_eq_true ((decide (0 ≤ a0.Quota)) && (decide (a0.Quota ≤ 1048576))) with hcc | hcc
    · skip
      refine wl_on (yl rfl rfl rfl) hcc ?_
      refine wl_field fld24_1 ((ho72 1 rfl).trans rfl) ?_
      refine wl_on (yl rfl rfl rfl) hcc ?_
      refine wl_loadb1 B71 ty3 rfl (.int .i64 a0.Sectors) rfl ?_
      refine wl_on (yl rfl rfl rfl) hcc ?_
      refine wl_geq rfl rfl ?_
      refine wl_pick_t ((decide (0 ≤ a0.Quota)) && (decide (a0.Quota ≤ 1048576))) (.bool (decide (0 ≤ a0.Sectors))) rfl hcc rfl ?_
      refine wl_nil ?_
      exact qn ⟨rfl, _, rfl, (by repeat (first | exact Same.refl _ _ | refine Same.upd ?_ rfl)), (by rw [hcc]; rfl)⟩
    · skip
      refine wl_off (yl rfl rfl rfl) hcc ?_
      refine wl_off (yl rfl rfl rfl) hcc ?_
      refine wl_off (yl rfl rfl rfl) hcc ?_
      refine wl_pick_f ((decide (0 ≤ a0.Quota)) && (decide (a0.Quota ≤ 1048576))) (.bool false) rfl hcc rfl ?_
      refine wl_nil ?_
      exact qn ⟨rfl, _, rfl, (by repeat (first | exact Same.refl _ _ | refine Same.upd ?_ rfl)), (by rw [hcc]; rfl)⟩
  intro _ ho74 hv75
  refine wl_move (.bool (((decide (0 ≤ a0.Quota)) && (decide (a0.Quota ≤ 1048576))) && (decide (0 ≤ a0.Sectors)))) hv75 ?_
  refine wl_join 4 [27, 28, 29, 30] 30 (.bool ((((decide (0 ≤ a0.Quota)) && (decide (a0.Quota ≤ 1048576))) && (decide (0 ≤ a0.Sectors))) && (decide (a0.Sectors ≤ 1048576)))) ?_ ?_
  · rcases Bool.eq_false_or_eq_true (((decide (0 ≤ a0.Quota)) && (decide (a0.Quota ≤ 1048576))) && (decide (0 ≤ a0.Sectors))) with hcc | hcc
    · skip
      refine wl_on (yl rfl rfl rfl) hcc ?_
      refine wl_field fld24_1 ((ho74 1 rfl).trans ((ho72 1 rfl).trans rfl)) ?_
      refine wl_on (yl rfl rfl rfl) hcc ?_
      refine wl_loadb1 B71 ty3 rfl (.int .i64 a0.Sectors) rfl ?_
      refine wl_on (yl rfl rfl rfl) hcc ?_
      refine wl_leq rfl rfl ?_
      refine wl_pick_t (((decide (0 ≤ a0.Quota)) && (decide (a0.Quota ≤ 1048576))) && (decide (0 ≤ a0.Sectors))) (.bool (decide (a0.Sectors ≤ 1048576))) rfl hcc rfl ?_
      refine wl_nil ?_
      exact qn ⟨rfl, _, rfl, (by repeat (first | exact Same.refl _ _ | refine Same.upd ?_ rfl)), (by rw [hcc]; rfl)⟩
    · skip
      refine wl_off (yl rfl rfl rfl) hcc ?_
      refine wl_off (yl rfl rfl rfl) hcc ?_
      refine wl_off (yl rfl rfl rfl) hcc ?_
      refine wl_pick_f (((decide (0 ≤ a0.Quota)) && (decide (a0.Quota ≤ 1048576))) && (decide (0 ≤ a0.Sectors))) (.bool false) rfl hcc rfl ?_
      refine wl_nil ?_
      exact qn ⟨rfl, _, rfl, (by repeat (first | exact Same.refl _ _ | refine Same.upd ?_ rfl)), (by rw [hcc]; rfl)⟩
  intro _ ho76 hv77
  refine wl_move (.bool ((((decide (0 ≤ a0.Quota)) && (decide (a0.Quota ≤ 1048576))) && (decide (0 ≤ a0.Sectors))) && (decide (a0.Sectors ≤ 1048576)))) hv77 ?_
  refine wl_join 3 [32, 33, 34] 34 (.bool (((((decide (0 ≤ a0.Quota)) && (decide (a0.Quota ≤ 1048576))) && (decide (0 ≤ a0.Sectors))) && (decide (a0.Sectors ≤ 1048576))) && (t7.2 == 0))) ?_ ?_
  · rcases Bool.eq_false_or_eq_true ((((decide (0 ≤ a0.Quota)) && (decide (a0.Quota ≤ 1048576))) && (decide (0 ≤ a0.Sectors))) && (decide (a0.Sectors ≤ 1048576))) with hcc | hcc
    · skip
      refine wl_on (yl rfl rfl rfl) hcc ?_
      refine wl_move (.int .i64 t7.2) ((ho76 4 rfl).trans ((ho74 4 rfl).trans ((ho72 4 rfl).trans rfl))) ?_
      refine wl_on (yl rfl rfl rfl) hcc ?_
      refine wl_eql rfl rfl ?_
      refine wl_pick_t ((((decide (0 ≤ a0.Quota)) && (decide (a0.Quota ≤ 1048576))) && (decide (0 ≤ a0.Sectors))) && (decide (a0.Sectors ≤ 1048576))) (.bool (t7.2 == 0)) rfl hcc rfl ?_
      refine wl_nil ?_
      exact qn ⟨rfl, _, rfl, (by repeat (first | exact Same.refl _ _ | refine Same.upd ?_ rfl)), (by rw [hcc]; rfl)⟩
    · skip
      refine wl_off (yl rfl rfl rfl) hcc ?_
      refine wl_off (yl rfl rfl rfl) hcc ?_
      refine wl_pick_f ((((decide (0 ≤ a0.Quota)) && (decide (a0.Quota ≤ 1048576))) && (decide (0 ≤ a0.Sectors))) && (decide (a0.Sectors ≤ 1048576))) (.bool false) rfl hcc rfl ?_
      refine wl_nil ?_
      exact qn ⟨rfl, _, rfl, (by repeat (first | exact Same.refl _ _ | refine Same.upd ?_ rfl)), (by rw [hcc]; rfl)⟩
  intro _ ho78 hv79
  refine wl_assign (.bool (((((decide (0 ≤ a0.Quota)) && (decide (a0.Quota ≤ 1048576))) && (decide (0 ≤ a0.Sectors))) && (decide (a0.Sectors ≤ 1048576))) && (t7.2 == 0))) hv79 ?_
  refine wl_nil ?_
  refine qn ?_
  refine wc_ret ?_
  have h := Option.some.inj h
  subst h
  refine end1 rfl (.tmp rfl .nil) ?_
  exact ⟨_, rfl, fr70⟩
/-! ### slices.IndexFunc[[]consignor/api.Deed,consignor/api.Deed]: function 27 -/
def slices_IndexFunc_api_Deed.l0 : Nat → (List ApiDeed) → (ApiDeed → Option Bool) → Int → Option Int
  | 0, _, _, _ => none
  | k + 1, a0, p1, x4 => if x4 < (a0.length : Int) then (if 0 ≤ x4 then ((a0[Int.toNat x4]?).bind fun t19 => ((p1 t19).bind fun t32 => (if t32 = true then (some x4) else (slices_IndexFunc_api_Deed.l0 k a0 p1 (IntKind.i64.wrap (x4 + 1)))))) else none) else (some (-1))
def slices_IndexFunc_api_Deed.f (k : Nat) (a0 : (List ApiDeed)) (p1 : (ApiDeed → Option Bool)) : Option Int := slices_IndexFunc_api_Deed.l0 k a0 p1 0
set_option maxHeartbeats 1000000 in
theorem slices_IndexFunc_api_Deed.ok (k : Nat) {w0 : World} {hw0 : Hw} (wf : Hwf w0 hw0) (a0 : (List ApiDeed)) (p1 : ApiDeed → Option Bool) (v0_ : Value) (q0 : Row KApiDeed w0 hw0 v0_ a0) (fv1 : Value) (q1 : FnOk Tryd.prog w0 hw0 fv1 (VS KApiDeed) Value.bool p1) (r : Int) (h : slices_IndexFunc_api_Deed.f k a0 p1 = some r) :
    Calls Tryd.prog 27 #[v0_, fv1] w0 fun e w' => ∃ (hw' : Hw), e = .returned (.int .i64 r) ∧ Stp none w0 hw0 w' hw' := by
  have fr0 := Stp.refl none (w := w0) (hw := hw0) wf
  unfold slices_IndexFunc_api_Deed.f at h
  refine enter (n := 19) Tryd.func27 rfl rfl (Nat.le_of_ble_eq_true rfl) ?_
  refine wc_seq ?_
  refine wc_region ?_
  refine wl_assign (.int .i64 0) rfl ?_
  refine wl_nil ?_
  refine qn ?_
  refine wc_seq ?_
  refine wc_seq ?_
  refine wc_region ?_
  refine wl_move (v0_) rfl ?_
  obtain ⟨A1, c2, hv3⟩ := (q0).slice
  refine wl_len Tryd.underlying22 (show _ = Value.slice _ a0.length _ from (Eq.trans rfl hv3)) ?_
  refine wl_move (.int .i64 0) rfl ?_
  refine wl_nil ?_
  refine qn ?_
  refine wc_block ?_
  refine wc_loop (fun m a w => ∃ (σ : Nat → Value) (hw : Hw) (kq : Nat) (x4 : Int), a = mkA 19 σ ∧ kq ≤ m ∧ kq ≤ k ∧ Stp none w0 hw0 w hw ∧ Ext w0 hw0 w hw ∧ σ 0 = v0_ ∧ σ 1 = fv1 ∧ σ 7 = .int .i64 (a0.length : Int) ∧ σ 8 = .int .i64 x4 ∧ slices_IndexFunc_api_Deed.l0 kq a0 p1 x4 = some r) k ?_ ?_ ?_
  · skip
    exact ⟨_, _, _, 0, rfl, (Nat.le_refl _), (Nat.le_refl _), fr0, (Ext.refl _ _), rfl, rfl, rfl, rfl, h⟩
  · rintro _ _ ⟨_, hw6, k7, x4, rfl, hk10, hk11, fr8, e9, z12, z13, z14, z15, h⟩; obtain rfl := Nat.le_zero.1 hk10; rw [slices_IndexFunc_api_Deed.l0] at h; cases h
  · rintro m0 _ w5 ⟨_, hw6, k7, x4, rfl, hk10, hk11, fr8, e9, z12, z13, z14, z15, h⟩
    rcases k7 with _ | k7
    · rw [slices_IndexFunc_api_Deed.l0] at h; cases h
    rw [slices_IndexFunc_api_Deed.l0] at h
    refine wc_seq ?_
    refine wc_region ?_
    refine wl_lss z15 z14 ?_
    refine wl_nil ?_
    refine qn ?_
    refine wc_seq ?_
    by_cases c16 : x4 < (a0.length : Int)
    · replace h := (if_pos c16).symm.trans h
      have b17 : (decide (x4 < (a0.length : Int))) = true := decide_eq_true c16
      refine wc_then rfl b17 ?_
      refine wc_skip ?_
      refine qn ?_
      refine wc_seq ?_
      refine wc_block ?_
      refine wc_seq ?_
      refine wc_region ?_
      refine wl_move (.int .i64 x4) z15 ?_
      refine wl_assign (.int .i64 x4) rfl ?_
      refine wl_nil ?_
      refine qn ?_
      refine wc_seq ?_
      refine wc_region ?_
      refine wl_move (fv1) z13 ?_
      refine wl_move (v0_) z12 ?_
      refine wl_move (.int .i64 x4) rfl ?_
      by_cases c18 : 0 ≤ x4
      · replace h := (if_pos c18).symm.trans h
        obtain ⟨t19, h20, h⟩ := Option.bind_eq_some_iff.1 h
        have c21 := at_lt c18 h20
        have f27 := q0.ext (e9)
        refine wl_at Tryd.underlying22 ty38 f27 rfl rfl c18 c21 t19 h20 ?_
        rintro B22 o23 cs24 ⟨v28, v30, rfl, r29, r31⟩ l26
        refine wl_load ty38 rfl [.int .i64 t19.Kind, v28, v30] rfl l26.2 ?_
        obtain ⟨t32, h33, h⟩ := Option.bind_eq_some_iff.1 h
        have f38 := q1.ext (e9)
        refine wl_callf f38 rfl rfl fr8.wf (⟨_, rfl, ⟨v28, v30, rfl, r29, r31⟩⟩) h33 ?_
        intro w34 hw35 s36
        have fr39 := fr8.then0 s36
        refine wl_nil ?_
        refine qn ?_
        by_cases c40 : t32 = true
        · replace h := (if_pos c40).symm.trans h
          refine wc_then rfl c40 ?_
          refine wc_seq ?_
          refine wc_region ?_
          refine wl_move (.int .i64 x4) rfl ?_
          refine wl_assign (.int .i64 x4) rfl ?_
          refine wl_nil ?_
          refine qn ?_
          refine wc_ret ?_
          refine bret ?_
          refine qr ?_
          refine qr ?_
          refine bret ?_
          refine qr ?_
          have h := Option.some.inj h
          subst h
          refine end1 rfl (.tmp rfl .nil) ?_
          exact ⟨_, rfl, fr39⟩
        · replace h := (if_neg c40).symm.trans h
          have b41 : t32 = false := Bool.eq_false_iff.2 c40
          refine wc_else rfl b41 ?_
          refine wc_skip ?_
          refine bn ?_
          refine qn ?_
          refine wc_region ?_
          refine wl_add z15 rfl ?_
          refine wl_move (.int .i64 (IntKind.i64.wrap (x4 + 1))) rfl ?_
          refine wl_nil ?_
          refine qn ?_
          exact ⟨_, _, _, (IntKind.i64.wrap (x4 + 1)), rfl, (by omega), (by omega), fr39, (Ext.trans e9 s36.ext), z12, z13, z14, rfl, h⟩
      · replace h := (if_neg c18).symm.trans h
        cases h
    · replace h := (if_neg c16).symm.trans h
      have b42 : (decide (x4 < (a0.length : Int))) = false := decide_eq_false c16
      refine wc_else rfl b42 ?_
      refine wc_exit ?_
      refine qe ?_
      refine qe ?_
      refine be ?_
      refine qn ?_
      refine wc_seq ?_
      refine wc_region ?_
      refine wl_assign (.int .i64 (-1)) rfl ?_
      refine wl_nil ?_
      refine qn ?_
      refine wc_ret ?_
      have h := Option.some.inj h
      subst h
      refine end1 rfl (.tmp rfl .nil) ?_
      exact ⟨_, rfl, fr8⟩
/-! ### slices.ContainsFunc[[]consignor/api.Deed,consignor/api.Deed]: function 17 -/
def slices_ContainsFunc_api_Deed.f (k : Nat) (a0 : (List ApiDeed)) (p1 : (ApiDeed → Option Bool)) : Option Bool := (slices_IndexFunc_api_Deed.f k a0 p1).bind fun t1 => (some (decide (0 ≤ t1)))
set_option maxHeartbeats 1000000 in
theorem slices_ContainsFunc_api_Deed.ok (k : Nat) {w0 : World} {hw0 : Hw} (wf : Hwf w0 hw0) (a0 : (List ApiDeed)) (p1 : ApiDeed → Option Bool) (v0_ : Value) (q0 : Row KApiDeed w0 hw0 v0_ a0) (fv1 : Value) (q1 : FnOk Tryd.prog w0 hw0 fv1 (VS KApiDeed) Value.bool p1) (r : Bool) (h : slices_ContainsFunc_api_Deed.f k a0 p1 = some r) :
    Calls Tryd.prog 17 #[v0_, fv1] w0 fun e w' => ∃ (hw' : Hw), e = .returned (.bool r) ∧ Stp none w0 hw0 w' hw' := by
  have fr0 := Stp.refl none (w := w0) (hw := hw0) wf
  unfold slices_ContainsFunc_api_Deed.f at h
  refine enter (n := 9) Tryd.func17 rfl rfl (Nat.le_of_ble_eq_true rfl) ?_
  refine wc_seq ?_
  refine wc_region ?_
  refine wl_assign (.bool false) rfl ?_
  refine wl_nil ?_
  refine qn ?_
  refine wc_seq ?_
  refine wc_region ?_
  refine wl_move (v0_) rfl ?_
  refine wl_move (fv1) rfl ?_
  obtain ⟨t1, h2, h⟩ := Option.bind_eq_some_iff.1 h
  refine wl_call [v0_, fv1] bod27 (mc rfl (mc rfl (mn _))) (slices_IndexFunc_api_Deed.ok k fr0.wf a0 p1 v0_ q0 fv1 q1 _ h2) ?_
  rintro e3 w4 ⟨hw5, rfl, s6⟩
  refine ⟨_, rfl, ?_⟩
  have fr7 := fr0.then0 s6
  refine wl_geq rfl rfl ?_
  refine wl_assign (.bool (decide (0 ≤ t1))) rfl ?_
  refine wl_nil ?_
  refine qn ?_
  refine wc_ret ?_
  have h := Option.some.inj h
  subst h
  refine end1 rfl (.tmp rfl .nil) ?_
  exact ⟨_, rfl, fr7⟩
/-! ### consignor/script.shapes: function 11 -/
def script_shapes.f (k : Nat) : Option (List (Int × ScriptShape)) := some ([(1, (⟨([98, 108, 111, 98] : List UInt8), 1, 2⟩ : ScriptShape)), (2, (⟨([112, 117, 116] : List UInt8), 1, 2⟩ : ScriptShape)), (3, (⟨([110, 97, 109, 101] : List UInt8), 1, 3⟩ : ScriptShape)), (4, (⟨([117, 110, 110, 97, 109, 101] : List UInt8), 1, 2⟩ : ScriptShape)), (5, (⟨([114, 117, 108, 101] : List UInt8), 3, 4⟩ : ScriptShape)), (6, (⟨([117, 110, 115, 101, 116] : List UInt8), 1, 0⟩ : ScriptShape)), (7, (⟨([102, 105, 114, 101] : List UInt8), 1, 0⟩ : ScriptShape)), (8, (⟨([116, 105, 99, 107] : List UInt8), 1, 0⟩ : ScriptShape)), (9, (⟨([115, 116, 101, 112] : List UInt8), 2, 0⟩ : ScriptShape)), (10, (⟨([115, 116, 111, 112] : List UInt8), 1, 0⟩ : ScriptShape)), (11, (⟨([97, 103, 97, 105, 110] : List UInt8), 1, 0⟩ : ScriptShape)), (12, (⟨([99, 114, 97, 115, 104] : List UInt8), 7, 3⟩ : ScriptShape))])
set_option maxHeartbeats 1000000 in
theorem script_shapes.ok (k : Nat) {w0 : World} {hw0 : Hw} (wf : Hwf w0 hw0) (r : (List (Int × ScriptShape))) (h : script_shapes.f k = some r) :
    Calls Tryd.prog 11 #[] w0 fun e w' => ∃ (v0 : Value) (hw' : Hw), e = .returned (v0) ∧ Stp none w0 hw0 w' hw' ∧ MapR Tryd.prog 3 (fun x : ScriptShape => Value.agg #[.string (bs x.word), .int .i64 x.nums, .int .i64 x.texts]) w' hw' v0 r := by
  have fr0 := Stp.refl none (w := w0) (hw := hw0) wf
  unfold script_shapes.f at h
  refine enter (n := 15) Tryd.func11 rfl rfl (Nat.le_of_ble_eq_true rfl) ?_
  refine wc_seq ?_
  refine wc_region ?_
  refine wl_assign (.map none) rfl ?_
  refine wl_nil ?_
  refine qn ?_
  refine wc_seq ?_
  refine wc_region ?_
  refine wl_makeml (k := 3) (fun x : ScriptShape => Value.agg #[.string (bs x.word), .int .i64 x.nums, .int .i64 x.texts]) fr0.wf fr0.g.size ?_
  intro b1 w2 s3 B4 g5
  have fr6 := fr0.then0 s3
  have hb7 : ∀ w, (Instr.build 41 #[(0, .string (bs ([98, 108, 111, 98] : List UInt8))), (1, .int .i64 1), (2, .int .i64 2)]).run Tryd.prog w = .ok (.agg (List.toArray [.string (bs ([98, 108, 111, 98] : List UInt8)), .int .i64 1, .int .i64 2])) w := by intro  _; kernel_rfl
  refine wl_build [.string (bs ([98, 108, 111, 98] : List UInt8)), .int .i64 1, .int .i64 2] (pc rfl (pc rfl (pc rfl (pn _ _)))) (hb7 _) ?_
  refine wl_insl (s := (⟨([98, 108, 111, 98] : List UInt8), 1, 2⟩ : ScriptShape)) (l' := [(1, (⟨([98, 108, 111, 98] : List UInt8), 1, 2⟩ : ScriptShape))]) B4 fr6.wf Tryd.underlying42 Tryd.underlying3 rfl rfl (show _ = (fun x : ScriptShape => Value.agg #[.string (bs x.word), .int .i64 x.nums, .int .i64 x.texts]) (⟨([98, 108, 111, 98] : List UInt8), 1, 2⟩ : ScriptShape) from rfl) (by decide) (by decide) (by kernel_rfl) ?_
  intro w8 s9 B10
  have fr11 := fr6.then s9 (fun _ e => (Option.some.inj e ▸ B4.new))
  have hb12 : ∀ w, (Instr.build 41 #[(0, .string (bs ([112, 117, 116] : List UInt8))), (1, .int .i64 1), (2, .int .i64 2)]).run Tryd.prog w = .ok (.agg (List.toArray [.string (bs ([112, 117, 116] : List UInt8)), .int .i64 1, .int .i64 2])) w := by intro  _; kernel_rfl
  refine wl_build [.string (bs ([112, 117, 116] : List UInt8)), .int .i64 1, .int .i64 2] (pc rfl (pc rfl (pc rfl (pn _ _)))) (hb12 _) ?_
  refine wl_insl (s := (⟨([112, 117, 116] : List UInt8), 1, 2⟩ : ScriptShape)) (l' := [(1, (⟨([98, 108, 111, 98] : List UInt8), 1, 2⟩ : ScriptShape)), (2, (⟨([112, 117, 116] : List UInt8), 1, 2⟩ : ScriptShape))]) B10 fr11.wf Tryd.underlying42 Tryd.underlying3 rfl rfl (show _ = (fun x : ScriptShape => Value.agg #[.string (bs x.word), .int .i64 x.nums, .int .i64 x.texts]) (⟨([112, 117, 116] : List UInt8), 1, 2⟩ : ScriptShape) from rfl) (by decide) (by decide) (by kernel_rfl) ?_
  intro w13 s14 B15
  have fr16 := fr11.then s14 (fun _ e => (Option.some.inj e ▸ B10.new))
  have hb17 : ∀ w, (Instr.build 41 #[(0, .string (bs ([110, 97, 109, 101] : List UInt8))), (1, .int .i64 1), (2, .int .i64 3)]).run Tryd.prog w = .ok (.agg (List.toArray [.string (bs ([110, 97, 109, 101] : List UInt8)), .int .i64 1, .int .i64 3])) w := by intro  _; kernel_rfl
  refine wl_build [.string (bs ([110, 97, 109, 101] : List UInt8)), .int .i64 1, .int .i64 3] (pc rfl (pc rfl (pc rfl (pn _ _)))) (hb17 _) ?_
  refine wl_insl (s := (⟨([110, 97, 109, 101] : List UInt8), 1, 3⟩ : ScriptShape)) (l' := [(1, (⟨([98, 108, 111, 98] : List UInt8), 1, 2⟩ : ScriptShape)), (2, (⟨([112, 117, 116] : List UInt8), 1, 2⟩ : ScriptShape)), (3, (⟨([110, 97, 109, 101] : List UInt8), 1, 3⟩ : ScriptShape))]) B15 fr16.wf Tryd.underlying42 Tryd.underlying3 rfl rfl (show _ = (fun x : ScriptShape => Value.agg #[.string (bs x.word), .int .i64 x.nums, .int .i64 x.texts]) (⟨([110, 97, 109, 101] : List UInt8), 1, 3⟩ : ScriptShape) from rfl) (by decide) (by decide) (by kernel_rfl) ?_
  intro w18 s19 B20
  have fr21 := fr16.then s19 (fun _ e => (Option.some.inj e ▸ B15.new))
  have hb22 : ∀ w, (Instr.build 41 #[(0, .string (bs ([117, 110, 110, 97, 109, 101] : List UInt8))), (1, .int .i64 1), (2, .int .i64 2)]).run Tryd.prog w = .ok (.agg (List.toArray [.string (bs ([117, 110, 110, 97, 109, 101] : List UInt8)), .int .i64 1, .int .i64 2])) w := by intro  _; kernel_rfl
  refine wl_build [.string (bs ([117, 110, 110, 97, 109, 101] : List UInt8)), .int .i64 1, .int .i64 2] (pc rfl (pc rfl (pc rfl (pn _ _)))) (hb22 _) ?_
  refine wl_insl (s := (⟨([117, 110, 110, 97, 109, 101] : List UInt8), 1, 2⟩ : ScriptShape)) (l' := [(1, (⟨([98, 108, 111, 98] : List UInt8), 1, 2⟩ : ScriptShape)), (2, (⟨([112, 117, 116] : List UInt8), 1, 2⟩ : ScriptShape)), (3, (⟨([110, 97, 109, 101] : List UInt8), 1, 3⟩ : ScriptShape)), (4, (⟨([117, 110, 110, 97, 109, 101] : List UInt8), 1, 2⟩ : ScriptShape))]) B20 fr21.wf Tryd.underlying42 Tryd.underlying3 rfl rfl (show _ = (fun x : ScriptShape => Value.agg #[.string (bs x.word), .int .i64 x.nums, .int .i64 x.texts]) (⟨([117, 110, 110, 97, 109, 101] : List UInt8), 1, 2⟩ : ScriptShape) from rfl) (by decide) (by decide) (by kernel_rfl) ?_
  intro w23 s24 B25
  have fr26 := fr21.then s24 (fun _ e => (Option.some.inj e ▸ B20.new))
  have hb27 : ∀ w, (Instr.build 41 #[(0, .string (bs ([114, 117, 108, 101] : List UInt8))), (1, .int .i64 3), (2, .int .i64 4)]).run Tryd.prog w = .ok (.agg (List.toArray [.string (bs ([114, 117, 108, 101] : List UInt8)), .int .i64 3, .int .i64 4])) w := by intro  _; kernel_rfl
  refine wl_build [.string (bs ([114, 117, 108, 101] : List UInt8)), .int .i64 3, .int .i64 4] (pc rfl (pc rfl (pc rfl (pn _ _)))) (hb27 _) ?_
  refine wl_insl (s := (⟨([114, 117, 108, 101] : List UInt8), 3, 4⟩ : ScriptShape)) (l' := [(1, (⟨([98, 108, 111, 98] : List UInt8), 1, 2⟩ : ScriptShape)), (2, (⟨([112, 117, 116] : List UInt8), 1, 2⟩ : ScriptShape)), (3, (⟨([110, 97, 109, 101] : List UInt8), 1, 3⟩ : ScriptShape)), (4, (⟨([117, 110, 110, 97, 109, 101] : List UInt8), 1, 2⟩ : ScriptShape)), (5, (⟨([114, 117, 108, 101] : List UInt8), 3, 4⟩ : ScriptShape))]) B25 fr26.wf Tryd.underlying42 Tryd.underlying3 rfl rfl (show _ = (fun x : ScriptShape => Value.agg #[.string (bs x.word), .int .i64 x.nums, .int .i64 x.texts]) (⟨([114, 117, 108, 101] : List UInt8), 3, 4⟩ : ScriptShape) from rfl) (by decide) (by decide) (by kernel_rfl) ?_
  intro w28 s29 B30
  have fr31 := fr26.then s29 (fun _ e => (Option.some.inj e ▸ B25.new))
  have hb32 : ∀ w, (Instr.build 41 #[(0, .string (bs ([117, 110, 115, 101, 116] : List UInt8))), (1, .int .i64 1), (2, .int .i64 0)]).run Tryd.prog w = .ok (.agg (List.toArray [.string (bs ([117, 110, 115, 101, 116] : List UInt8)), .int .i64 1, .int .i64 0])) w := by intro  _; kernel_rfl
  refine wl_build [.string (bs ([117, 110, 115, 101, 116] : List UInt8)), .int .i64 1, .int .i64 0] (pc rfl (pc rfl (pc rfl (pn _ _)))) (hb32 _) ?_
  refine wl_insl (s := (⟨([117, 110, 115, 101, 116] : List UInt8), 1, 0⟩ : ScriptShape)) (l' := [(1, (⟨([98, 108, 111, 98] : List UInt8), 1, 2⟩ : ScriptShape)), (2, (⟨([112, 117, 116] : List UInt8), 1, 2⟩ : ScriptShape)), (3, (⟨([110, 97, 109, 101] : List UInt8), 1, 3⟩ : ScriptShape)), (4, (⟨([117, 110, 110, 97, 109, 101] : List UInt8), 1, 2⟩ : ScriptShape)), (5, (⟨([114, 117, 108, 101] : List UInt8), 3, 4⟩ : ScriptShape)), (6, (⟨([117, 110, 115, 101, 116] : List UInt8), 1, 0⟩ : ScriptShape))]) B30 fr31.wf Tryd.underlying42 Tryd.underlying3 rfl rfl (show _ = (fun x : ScriptShape => Value.agg #[.string (bs x.word), .int .i64 x.nums, .int .i64 x.texts]) (⟨([117, 110, 115, 101, 116] : List UInt8), 1, 0⟩ : ScriptShape) from rfl) (by decide) (by decide) (by kernel_rfl) ?_
  intro w33 s34 B35
  have fr36 := fr31.then s34 (fun _ e => (Option.some.inj e ▸ B30.new))
  have hb37 : ∀ w, (Instr.build 41 #[(0, .string (bs ([102, 105, 114, 101] : List UInt8))), (1, .int .i64 1), (2, .int .i64 0)]).run Tryd.prog w = .ok (.agg (List.toArray [.string (bs ([102, 105, 114, 101] : List UInt8)), .int .i64 1, .int .i64 0])) w := by intro  _; kernel_rfl
  refine wl_build [.string (bs ([102, 105, 114, 101] : List UInt8)), .int .i64 1, .int .i64 0] (pc rfl (pc rfl (pc rfl (pn _ _)))) (hb37 _) ?_
  refine wl_insl (s := (⟨([102, 105, 114, 101] : List UInt8), 1, 0⟩ : ScriptShape)) (l' := [(1, (⟨([98, 108, 111, 98] : List UInt8), 1, 2⟩ : ScriptShape)), (2, (⟨([112, 117, 116] : List UInt8), 1, 2⟩ : ScriptShape)), (3, (⟨([110, 97, 109, 101] : List UInt8), 1, 3⟩ : ScriptShape)), (4, (⟨([117, 110, 110, 97, 109, 101] : List UInt8), 1, 2⟩ : ScriptShape)), (5, (⟨([114, 117, 108, 101] : List UInt8), 3, 4⟩ : ScriptShape)), (6, (⟨([117, 110, 115, 101, 116] : List UInt8), 1, 0⟩ : ScriptShape)), (7, (⟨([102, 105, 114, 101] : List UInt8), 1, 0⟩ : ScriptShape))]) B35 fr36.wf Tryd.underlying42 Tryd.underlying3 rfl rfl (show _ = (fun x : ScriptShape => Value.agg #[.string (bs x.word), .int .i64 x.nums, .int .i64 x.texts]) (⟨([102, 105, 114, 101] : List UInt8), 1, 0⟩ : ScriptShape) from rfl) (by decide) (by decide) (by kernel_rfl) ?_
  intro w38 s39 B40
  have fr41 := fr36.then s39 (fun _ e => (Option.some.inj e ▸ B35.new))
  have hb42 : ∀ w, (Instr.build 41 #[(0, .string (bs ([116, 105, 99, 107] : List UInt8))), (1, .int .i64 1), (2, .int .i64 0)]).run Tryd.prog w = .ok (.agg (List.toArray [.string (bs ([116, 105, 99, 107] : List UInt8)), .int .i64 1, .int .i64 0])) w := by intro  _; kernel_rfl
  refine wl_build [.string (bs ([116, 105, 99, 107] : List UInt8)), .int .i64 1, .int .i64 0] (pc rfl (pc rfl (pc rfl (pn _ _)))) (hb42 _) ?_
  refine wl_insl (s := (⟨([116, 105, 99, 107] : List UInt8), 1, 0⟩ : ScriptShape)) (l' := [(1, (⟨([98, 108, 111, 98] : List UInt8), 1, 2⟩ : ScriptShape)), (2, (⟨([112, 117, 116] : List UInt8), 1, 2⟩ : ScriptShape)), (3, (⟨([110, 97, 109, 101] : List UInt8), 1, 3⟩ : ScriptShape)), (4, (⟨([117, 110, 110, 97, 109, 101] : List UInt8), 1, 2⟩ : ScriptShape)), (5, (⟨([114, 117, 108, 101] : List UInt8), 3, 4⟩ : ScriptShape)), (6, (⟨([117, 110, 115, 101, 116] : List UInt8), 1, 0⟩ : ScriptShape)), (7, (⟨([102, 105, 114, 101] : List UInt8), 1, 0⟩ : ScriptShape)), (8, (⟨([116, 105, 99, 107] : List UInt8), 1, 0⟩ : ScriptShape))]) B40 fr41.wf Tryd.underlying42 Tryd.underlying3 rfl rfl (show _ = (fun x : ScriptShape => Value.agg #[.string (bs x.word), .int .i64 x.nums, .int .i64 x.texts]) (⟨([116, 105, 99, 107] : List UInt8), 1, 0⟩ : ScriptShape) from rfl) (by decide) (by decide) (by kernel_rfl) ?_
  intro w43 s44 B45
  have fr46 := fr41.then s44 (fun _ e => (Option.some.inj e ▸ B40.new))
  have hb47 : ∀ w, (Instr.build 41 #[(0, .string (bs ([115, 116, 101, 112] : List UInt8))), (1, .int .i64 2), (2, .int .i64 0)]).run Tryd.prog w = .ok (.agg (List.toArray [.string (bs ([115, 116, 101, 112] : List UInt8)), .int .i64 2, .int .i64 0])) w := by intro  _; kernel_rfl
  refine wl_build [.string (bs ([115, 116, 101, 112] : List UInt8)), .int .i64 2, .int .i64 0] (pc rfl (pc rfl (pc rfl (pn _ _)))) (hb47 _) ?_
  refine wl_insl (s := (⟨([115, 116, 101, 112] : List UInt8), 2, 0⟩ : ScriptShape)) (l' := [(1, (⟨([98, 108, 111, 98] : List UInt8), 1, 2⟩ : ScriptShape)), (2, (⟨([112, 117, 116] : List UInt8), 1, 2⟩ : ScriptShape)), (3, (⟨([110, 97, 109, 101] : List UInt8), 1, 3⟩ : ScriptShape)), (4, (⟨([117, 110, 110, 97, 109, 101] : List UInt8), 1, 2⟩ : ScriptShape)), (5, (⟨([114, 117, 108, 101] : List UInt8), 3, 4⟩ : ScriptShape)), (6, (⟨([117, 110, 115, 101, 116] : List UInt8), 1, 0⟩ : ScriptShape)), (7, (⟨([102, 105, 114, 101] : List UInt8), 1, 0⟩ : ScriptShape)), (8, (⟨([116, 105, 99, 107] : List UInt8), 1, 0⟩ : ScriptShape)), (9, (⟨([115, 116, 101, 112] : List UInt8), 2, 0⟩ : ScriptShape))]) B45 fr46.wf Tryd.underlying42 Tryd.underlying3 rfl rfl (show _ = (fun x : ScriptShape => Value.agg #[.string (bs x.word), .int .i64 x.nums, .int .i64 x.texts]) (⟨([115, 116, 101, 112] : List UInt8), 2, 0⟩ : ScriptShape) from rfl) (by decide) (by decide) (by kernel_rfl) ?_
  intro w48 s49 B50
  have fr51 := fr46.then s49 (fun _ e => (Option.some.inj e ▸ B45.new))
  have hb52 : ∀ w, (Instr.build 41 #[(0, .string (bs ([115, 116, 111, 112] : List UInt8))), (1, .int .i64 1), (2, .int .i64 0)]).run Tryd.prog w = .ok (.agg (List.toArray [.string (bs ([115, 116, 111, 112] : List UInt8)), .int .i64 1, .int .i64 0])) w := by intro  _; kernel_rfl
  refine wl_build [.string (bs ([115, 116, 111, 112] : List UInt8)), .int .i64 1, .int .i64 0] (pc rfl (pc rfl (pc rfl (pn _ _)))) (hb52 _) ?_
  refine wl_insl (s := (⟨([115, 116, 111, 112] : List UInt8), 1, 0⟩ : ScriptShape)) (l' := [(1, (⟨([98, 108, 111, 98] : List UInt8), 1, 2⟩ : ScriptShape)), (2, (⟨([112, 117, 116] : List UInt8), 1, 2⟩ : ScriptShape)), (3, (⟨([110, 97, 109, 101] : List UInt8), 1, 3⟩ : ScriptShape)), (4, (⟨([117, 110, 110, 97, 109, 101] : List UInt8), 1, 2⟩ : ScriptShape)), (5, (⟨([114, 117, 108, 101] : List UInt8), 3, 4⟩ : ScriptShape)), (6, (⟨([117, 110, 115, 101, 116] : List UInt8), 1, 0⟩ : ScriptShape)), (7, (⟨([102, 105, 114, 101] : List UInt8), 1, 0⟩ : ScriptShape)), (8, (⟨([116, 105, 99, 107] : List UInt8), 1, 0⟩ : ScriptShape)), (9, (⟨([115, 116, 101, 112] : List UInt8), 2, 0⟩ : ScriptShape)), (10, (⟨([115, 116, 111, 112] : List UInt8), 1, 0⟩ : ScriptShape))]) B50 fr51.wf Tryd.underlying42 Tryd.underlying3 rfl rfl (show _ = (fun x : ScriptShape => Value.agg #[.string (bs x.word), .int .i64 x.nums, .int .i64 x.texts]) (⟨([115, 116, 111, 112] : List UInt8), 1, 0⟩ : ScriptShape) from rfl) (by decide) (by decide) (by kernel_rfl) ?_
  intro w53 s54 B55
  have fr56 := fr51.then s54 (fun _ e => (Option.some.inj e ▸ B50.new))
  have hb57 : ∀ w, (Instr.build 41 #[(0, .string (bs ([97, 103, 97, 105, 110] : List UInt8))), (1, .int .i64 1), (2, .int .i64 0)]).run Tryd.prog w = .ok (.agg (List.toArray [.string (bs ([97, 103, 97, 105, 110] : List UInt8)), .int .i64 1, .int .i64 0])) w := by intro  _; kernel_rfl
  refine wl_build [.string (bs ([97, 103, 97, 105, 110] : List UInt8)), .int .i64 1, .int .i64 0] (pc rfl (pc rfl (pc rfl (pn _ _)))) (hb57 _) ?_
  refine wl_insl (s := (⟨([97, 103, 97, 105, 110] : List UInt8), 1, 0⟩ : ScriptShape)) (l' := [(1, (⟨([98, 108, 111, 98] : List UInt8), 1, 2⟩ : ScriptShape)), (2, (⟨([112, 117, 116] : List UInt8), 1, 2⟩ : ScriptShape)), (3, (⟨([110, 97, 109, 101] : List UInt8), 1, 3⟩ : ScriptShape)), (4, (⟨([117, 110, 110, 97, 109, 101] : List UInt8), 1, 2⟩ : ScriptShape)), (5, (⟨([114, 117, 108, 101] : List UInt8), 3, 4⟩ : ScriptShape)), (6, (⟨([117, 110, 115, 101, 116] : List UInt8), 1, 0⟩ : ScriptShape)), (7, (⟨([102, 105, 114, 101] : List UInt8), 1, 0⟩ : ScriptShape)), (8, (⟨([116, 105, 99, 107] : List UInt8), 1, 0⟩ : ScriptShape)), (9, (⟨([115, 116, 101, 112] : List UInt8), 2, 0⟩ : ScriptShape)), (10, (⟨([115, 116, 111, 112] : List UInt8), 1, 0⟩ : ScriptShape)), (11, (⟨([97, 103, 97, 105, 110] : List UInt8), 1, 0⟩ : ScriptShape))]) B55 fr56.wf Tryd.underlying42 Tryd.underlying3 rfl rfl (show _ = (fun x : ScriptShape => Value.agg #[.string (bs x.word), .int .i64 x.nums, .int .i64 x.texts]) (⟨([97, 103, 97, 105, 110] : List UInt8), 1, 0⟩ : ScriptShape) from rfl) (by decide) (by decide) (by kernel_rfl) ?_
  intro w58 s59 B60
  have fr61 := fr56.then s59 (fun _ e => (Option.some.inj e ▸ B55.new))
  have hb62 : ∀ w, (Instr.build 41 #[(0, .string (bs ([99, 114, 97, 115, 104] : List UInt8))), (1, .int .i64 7), (2, .int .i64 3)]).run Tryd.prog w = .ok (.agg (List.toArray [.string (bs ([99, 114, 97, 115, 104] : List UInt8)), .int .i64 7, .int .i64 3])) w := by intro  _; kernel_rfl
  refine wl_build [.string (bs ([99, 114, 97, 115, 104] : List UInt8)), .int .i64 7, .int .i64 3] (pc rfl (pc rfl (pc rfl (pn _ _)))) (hb62 _) ?_
  refine wl_insl (s := (⟨([99, 114, 97, 115, 104] : List UInt8), 7, 3⟩ : ScriptShape)) (l' := [(1, (⟨([98, 108, 111, 98] : List UInt8), 1, 2⟩ : ScriptShape)), (2, (⟨([112, 117, 116] : List UInt8), 1, 2⟩ : ScriptShape)), (3, (⟨([110, 97, 109, 101] : List UInt8), 1, 3⟩ : ScriptShape)), (4, (⟨([117, 110, 110, 97, 109, 101] : List UInt8), 1, 2⟩ : ScriptShape)), (5, (⟨([114, 117, 108, 101] : List UInt8), 3, 4⟩ : ScriptShape)), (6, (⟨([117, 110, 115, 101, 116] : List UInt8), 1, 0⟩ : ScriptShape)), (7, (⟨([102, 105, 114, 101] : List UInt8), 1, 0⟩ : ScriptShape)), (8, (⟨([116, 105, 99, 107] : List UInt8), 1, 0⟩ : ScriptShape)), (9, (⟨([115, 116, 101, 112] : List UInt8), 2, 0⟩ : ScriptShape)), (10, (⟨([115, 116, 111, 112] : List UInt8), 1, 0⟩ : ScriptShape)), (11, (⟨([97, 103, 97, 105, 110] : List UInt8), 1, 0⟩ : ScriptShape)), (12, (⟨([99, 114, 97, 115, 104] : List UInt8), 7, 3⟩ : ScriptShape))]) B60 fr61.wf Tryd.underlying42 Tryd.underlying3 rfl rfl (show _ = (fun x : ScriptShape => Value.agg #[.string (bs x.word), .int .i64 x.nums, .int .i64 x.texts]) (⟨([99, 114, 97, 115, 104] : List UInt8), 7, 3⟩ : ScriptShape) from rfl) (by decide) (by decide) (by kernel_rfl) ?_
  intro w63 s64 B65
  have fr66 := fr61.then s64 (fun _ e => (Option.some.inj e ▸ B60.new))
  refine wl_move (.map (some b1)) rfl ?_
  refine wl_assign (.map (some b1)) rfl ?_
  refine wl_nil ?_
  refine qn ?_
  refine wc_ret ?_
  obtain ⟨M67, s68⟩ := OwnML.freeze B65 fr66.wf
  have fr69 := fr66.then s68 (fun _ e => (Option.some.inj e ▸ B65.new))
  have h := Option.some.inj h
  subst h
  refine end1 rfl (.tmp rfl .nil) ?_
  exact ⟨(.map (some b1)), _, rfl, fr69, M67⟩
/-! ### slices.IndexFunc[[]int,int]: function 40 -/
def slices_IndexFunc_int_int.l0 : Nat → (List Int) → (Int → Option Bool) → Int → Option Int
  | 0, _, _, _ => none
  | k + 1, a0, p1, x4 => if x4 < (a0.length : Int) then (if 0 ≤ x4 then ((a0[Int.toNat x4]?).bind fun t19 => ((p1 t19).bind fun t28 => (if t28 = true then (some x4) else (slices_IndexFunc_int_int.l0 k a0 p1 (IntKind.i64.wrap (x4 + 1)))))) else none) else (some (-1))
def slices_IndexFunc_int_int.f (k : Nat) (a0 : (List Int)) (p1 : (Int → Option Bool)) : Option Int := slices_IndexFunc_int_int.l0 k a0 p1 0
set_option maxHeartbeats 1000000 in
theorem slices_IndexFunc_int_int.ok (k : Nat) {w0 : World} {hw0 : Hw} (wf : Hwf w0 hw0) (a0 : (List Int)) (p1 : Int → Option Bool) (v0_ : Value) (q0 : Row (Kint .i64) w0 hw0 v0_ a0) (fv1 : Value) (q1 : FnOk Tryd.prog w0 hw0 fv1 (V1 (Kint .i64)) Value.bool p1) (r : Int) (h : slices_IndexFunc_int_int.f k a0 p1 = some r) :
    Calls Tryd.prog 40 #[v0_, fv1] w0 fun e w' => ∃ (hw' : Hw), e = .returned (.int .i64 r) ∧ Stp none w0 hw0 w' hw' := by
  have fr0 := Stp.refl none (w := w0) (hw := hw0) wf
  unfold slices_IndexFunc_int_int.f at h
  refine enter (n := 19) Tryd.func40 rfl rfl (Nat.le_of_ble_eq_true rfl) ?_
  refine wc_seq ?_
  refine wc_region ?_
  refine wl_assign (.int .i64 0) rfl ?_
  refine wl_nil ?_
  refine qn ?_
  refine wc_seq ?_
  refine wc_seq ?_
  refine wc_region ?_
  refine wl_move (v0_) rfl ?_
  obtain ⟨A1, c2, hv3⟩ := (q0).slice
  refine wl_len Tryd.underlying35 (show _ = Value.slice _ a0.length _ from (Eq.trans rfl hv3)) ?_
  refine wl_move (.int .i64 0) rfl ?_
  refine wl_nil ?_
  refine qn ?_
  refine wc_block ?_
  refine wc_loop (fun m a w => ∃ (σ : Nat → Value) (hw : Hw) (kq : Nat) (x4 : Int), a = mkA 19 σ ∧ kq ≤ m ∧ kq ≤ k ∧ Stp none w0 hw0 w hw ∧ Ext w0 hw0 w hw ∧ σ 0 = v0_ ∧ σ 1 = fv1 ∧ σ 7 = .int .i64 (a0.length : Int) ∧ σ 8 = .int .i64 x4 ∧ slices_IndexFunc_int_int.l0 kq a0 p1 x4 = some r) k ?_ ?_ ?_
  · skip
    exact ⟨_, _, _, 0, rfl, (Nat.le_refl _), (Nat.le_refl _), fr0, (Ext.refl _ _), rfl, rfl, rfl, rfl, h⟩
  · rintro _ _ ⟨_, hw6, k7, x4, rfl, hk10, hk11, fr8, e9, z12, z13, z14, z15, h⟩; obtain rfl := Nat.le_zero.1 hk10; rw [slices_IndexFunc_int_int.l0] at h; cases h
  · rintro m0 _ w5 ⟨_, hw6, k7, x4, rfl, hk10, hk11, fr8, e9, z12, z13, z14, z15, h⟩
    rcases k7 with _ | k7
    · rw [slices_IndexFunc_int_int.l0] at h; cases h
    rw [slices_IndexFunc_int_int.l0] at h
    refine wc_seq ?_
    refine wc_region ?_
    refine wl_lss z15 z14 ?_
    refine wl_nil ?_
    refine qn ?_
    refine wc_seq ?_
    by_cases c16 : x4 < (a0.length : Int)
    · replace h := (if_pos c16).symm.trans h
      have b17 : (decide (x4 < (a0.length : Int))) = true := decide_eq_true c16
      refine wc_then rfl b17 ?_
      refine wc_skip ?_
      refine qn ?_
      refine wc_seq ?_
      refine wc_block ?_
      refine wc_seq ?_
      refine wc_region ?_
      refine wl_move (.int .i64 x4) z15 ?_
      refine wl_assign (.int .i64 x4) rfl ?_
      refine wl_nil ?_
      refine qn ?_
      refine wc_seq ?_
      refine wc_region ?_
      refine wl_move (fv1) z13 ?_
      refine wl_move (v0_) z12 ?_
      refine wl_move (.int .i64 x4) rfl ?_
      by_cases c18 : 0 ≤ x4
      · replace h := (if_pos c18).symm.trans h
        obtain ⟨t19, h20, h⟩ := Option.bind_eq_some_iff.1 h
        have c21 := at_lt c18 h20
        have f27 := q0.ext (e9)
        refine wl_at Tryd.underlying35 ty3 f27 rfl rfl c18 c21 t19 h20 ?_
        rintro B22 o23 cs24 rfl l26
        refine wl_load1 ty3 rfl (.int .i64 t19) (l26.2 0 _ rfl) ?_
        obtain ⟨t28, h29, h⟩ := Option.bind_eq_some_iff.1 h
        have f34 := q1.ext (e9)
        refine wl_callf f34 rfl rfl fr8.wf (rfl) h29 ?_
        intro w30 hw31 s32
        have fr35 := fr8.then0 s32
        refine wl_nil ?_
        refine qn ?_
        by_cases c36 : t28 = true
        · replace h := (if_pos c36).symm.trans h
          refine wc_then rfl c36 ?_
          refine wc_seq ?_
          refine wc_region ?_
          refine wl_move (.int .i64 x4) rfl ?_
          refine wl_assign (.int .i64 x4) rfl ?_
          refine wl_nil ?_
          refine qn ?_
          refine wc_ret ?_
          refine bret ?_
          refine qr ?_
          refine qr ?_
          refine bret ?_
          refine qr ?_
          have h := Option.some.inj h
          subst h
          refine end1 rfl (.tmp rfl .nil) ?_
          exact ⟨_, rfl, fr35⟩
        · replace h := (if_neg c36).symm.trans h
          have b37 : t28 = false := Bool.eq_false_iff.2 c36
          refine wc_else rfl b37 ?_
          refine wc_skip ?_
          refine bn ?_
          refine qn ?_
          refine wc_region ?_
          refine wl_add z15 rfl ?_
          refine wl_move (.int .i64 (IntKind.i64.wrap (x4 + 1))) rfl ?_
          refine wl_nil ?_
          refine qn ?_
          exact ⟨_, _, _, (IntKind.i64.wrap (x4 + 1)), rfl, (by omega), (by omega), fr35, (Ext.trans e9 s32.ext), z12, z13, z14, rfl, h⟩
      · replace h := (if_neg c18).symm.trans h
        cases h
    · replace h := (if_neg c16).symm.trans h
      have b38 : (decide (x4 < (a0.length : Int))) = false := decide_eq_false c16
      refine wc_else rfl b38 ?_
      refine wc_exit ?_
      refine qe ?_
      refine qe ?_
      refine be ?_
      refine qn ?_
      refine wc_seq ?_
      refine wc_region ?_
      refine wl_assign (.int .i64 (-1)) rfl ?_
      refine wl_nil ?_
      refine qn ?_
      refine wc_ret ?_
      have h := Option.some.inj h
      subst h
      refine end1 rfl (.tmp rfl .nil) ?_
      exact ⟨_, rfl, fr8⟩
/-! ### slices.ContainsFunc[[]int,int]: function 28 -/
def slices_ContainsFunc_int_int.f (k : Nat) (a0 : (List Int)) (p1 : (Int → Option Bool)) : Option Bool := (slices_IndexFunc_int_int.f k a0 p1).bind fun t1 => (some (decide (0 ≤ t1)))
set_option maxHeartbeats 1000000 in
theorem slices_ContainsFunc_int_int.ok (k : Nat) {w0 : World} {hw0 : Hw} (wf : Hwf w0 hw0) (a0 : (List Int)) (p1 : Int → Option Bool) (v0_ : Value) (q0 : Row (Kint .i64) w0 hw0 v0_ a0) (fv1 : Value) (q1 : FnOk Tryd.prog w0 hw0 fv1 (V1 (Kint .i64)) Value.bool p1) (r : Bool) (h : slices_ContainsFunc_int_int.f k a0 p1 = some r) :
    Calls Tryd.prog 28 #[v0_, fv1] w0 fun e w' => ∃ (hw' : Hw), e = .returned (.bool r) ∧ Stp none w0 hw0 w' hw' := by
  have fr0 := Stp.refl none (w := w0) (hw := hw0) wf
  unfold slices_ContainsFunc_int_int.f at h
  refine enter (n := 9) Tryd.func28 rfl rfl (Nat.le_of_ble_eq_true rfl) ?_
  refine wc_seq ?_
  refine wc_region ?_
  refine wl_assign (.bool false) rfl ?_
  refine wl_nil ?_
  refine qn ?_
  refine wc_seq ?_
  refine wc_region ?_
  refine wl_move (v0_) rfl ?_
  refine wl_move (fv1) rfl ?_
  obtain ⟨t1, h2, h⟩ := Option.bind_eq_some_iff.1 h
  refine wl_call [v0_, fv1] bod40 (mc rfl (mc rfl (mn _))) (slices_IndexFunc_int_int.ok k fr0.wf a0 p1 v0_ q0 fv1 q1 _ h2) ?_
  rintro e3 w4 ⟨hw5, rfl, s6⟩
  refine ⟨_, rfl, ?_⟩
  have fr7 := fr0.then0 s6
  refine wl_geq rfl rfl ?_
  refine wl_assign (.bool (decide (0 ≤ t1))) rfl ?_
  refine wl_nil ?_
  refine qn ?_
  refine wc_ret ?_
  have h := Option.some.inj h
  subst h
  refine end1 rfl (.tmp rfl .nil) ?_
  exact ⟨_, rfl, fr7⟩
/-! ### consignor/script.right$1: function 29 -/
def script_right_c1.f (k : Nat) (a0 : Int) : Option Bool := some ((decide (a0 < 0)) || (decide (1099511627776 < a0)))
set_option maxHeartbeats 1000000 in
theorem script_right_c1.ok (k : Nat) {w0 : World} {hw0 : Hw} (wf : Hwf w0 hw0) (a0 : Int) (r : Bool) (h : script_right_c1.f k a0 = some r) :
    Calls Tryd.prog 29 #[.int .i64 a0] w0 fun e w' => ∃ (hw' : Hw), e = .returned (.bool r) ∧ Stp none w0 hw0 w' hw' := by
  have fr0 := Stp.refl none (w := w0) (hw := hw0) wf
  unfold script_right_c1.f at h
  refine enter (n := 9) Tryd.func29 rfl rfl (Nat.le_of_ble_eq_true rfl) ?_
  refine wc_seq ?_
  refine wc_region ?_
  refine wl_assign (.bool false) rfl ?_
  refine wl_nil ?_
  refine qn ?_
  refine wc_seq ?_
  refine wc_region ?_
  refine wl_move (.int .i64 a0) rfl ?_
  refine wl_lss rfl rfl ?_
  refine wl_move (.bool (decide (a0 < 0))) rfl ?_
  refine wl_join 3 [6, 7, 8] 8 (.bool ((decide (a0 < 0)) || (decide (1099511627776 < a0)))) ?_ ?_
  · rcases Bool.eq_false_or_eq_true (decide (a0 < 0)) with hcc | hcc
    · skip
      refine wl_off (yl rfl rfl rfl) hcc ?_
      refine wl_off (yl rfl rfl rfl) hcc ?_
      refine wl_pick_t (decide (a0 < 0)) (.bool true) rfl hcc rfl ?_
      refine wl_nil ?_
      exact qn ⟨rfl, _, rfl, (by repeat (first | exact Same.refl _ _ | refine Same.upd ?_ rfl)), (by rw [hcc]; rfl)⟩
    · skip
      refine wl_on (yl rfl rfl rfl) hcc ?_
      refine wl_move (.int .i64 a0) rfl ?_
      refine wl_on (yl rfl rfl rfl) hcc ?_
      refine wl_gtr rfl rfl ?_
      refine wl_pick_f (decide (a0 < 0)) (.bool (decide (1099511627776 < a0))) rfl hcc rfl ?_
      refine wl_nil ?_
      exact qn ⟨rfl, _, rfl, (by repeat (first | exact Same.refl _ _ | refine Same.upd ?_ rfl)), (by rw [hcc]; rfl)⟩
  intro _ ho1 hv2
  refine wl_assign (.bool ((decide (a0 < 0)) || (decide (1099511627776 < a0)))) hv2 ?_
  refine wl_nil ?_
  refine qn ?_
  refine wc_ret ?_
  have h := Option.some.inj h
  subst h
  refine end1 rfl (.tmp rfl .nil) ?_
  exact ⟨_, rfl, fr0⟩
/-! ### consignor/script.right$2: function 31 -/
def script_right_c2.f (k : Nat) (a0 : (List UInt8)) : Option Bool := some (decide (1000 < (a0.length : Int)))
set_option maxHeartbeats 1000000 in
theorem script_right_c2.ok (k : Nat) {w0 : World} {hw0 : Hw} (wf : Hwf w0 hw0) (a0 : (List UInt8)) (r : Bool) (h : script_right_c2.f k a0 = some r) :
    Calls Tryd.prog 31 #[.string (bs a0)] w0 fun e w' => ∃ (hw' : Hw), e = .returned (.bool r) ∧ Stp none w0 hw0 w' hw' := by
  have fr0 := Stp.refl none (w := w0) (hw := hw0) wf
  unfold script_right_c2.f at h
  refine enter (n := 6) Tryd.func31 rfl rfl (Nat.le_of_ble_eq_true rfl) ?_
  refine wc_seq ?_
  refine wc_region ?_
  refine wl_assign (.bool false) rfl ?_
  refine wl_nil ?_
  refine qn ?_
  refine wc_seq ?_
  refine wc_region ?_
  refine wl_move (.string (bs a0)) rfl ?_
  refine wl_lens Tryd.underlying9 rfl ?_
  refine wl_gtr rfl rfl ?_
  refine wl_assign (.bool (decide (1000 < (a0.length : Int)))) rfl ?_
  refine wl_nil ?_
  refine qn ?_
  refine wc_ret ?_
  have h := Option.some.inj h
  subst h
  refine end1 rfl (.tmp rfl .nil) ?_
  exact ⟨_, rfl, fr0⟩
/-! ### consignor/script.right: function 19 -/
def script_right.f (k : Nat) (a0 : ApiDeed) : Option Bool := (script_shapes.f k).bind fun t11 => (if i64ok a0.Kind then (if ((((mfind t11 a0.Kind).isSome) && ((a0.Nums.length : Int) == (((mfind t11 a0.Kind).getD (⟨[], 0, 0⟩ : ScriptShape)).nums))) && ((a0.Texts.length : Int) == (((mfind t11 a0.Kind).getD (⟨[], 0, 0⟩ : ScriptShape)).texts))) = true then ((slices_ContainsFunc_int_int.f k a0.Nums (fun x => script_right_c1.f k x)).bind fun t297 => (if t297 = true then (some false) else ((slices_ContainsFunc_string_string.f k a0.Texts (fun x => script_right_c2.f k x)).bind fun t309 => (some (!t309))))) else (some false)) else none)
set_option maxHeartbeats 1000000 in
theorem script_right.ok (k : Nat) {w0 : World} {hw0 : Hw} (wf : Hwf w0 hw0) (a0 : ApiDeed) (v0_1 : Value) (q0_1 : Row (Kint .i64) w0 hw0 v0_1 a0.Nums) (v0_2 : Value) (q0_2 : Row Kstr w0 hw0 v0_2 a0.Texts) (r : Bool) (h : script_right.f k a0 = some r) :
    Calls Tryd.prog 19 #[.agg #[.int .i64 a0.Kind, v0_1, v0_2]] w0 fun e w' => ∃ (hw' : Hw), e = .returned (.bool r) ∧ Stp none w0 hw0 w' hw' := by
  have fr0 := Stp.refl none (w := w0) (hw := hw0) wf
  unfold script_right.f at h
  refine enter (n := 41) Tryd.func19 rfl rfl (Nat.le_of_ble_eq_true rfl) ?_
  refine wc_seq ?_
  refine wc_region ?_
  refine wl_box fr0.wf fr0.g.size [.int .i64 a0.Kind, v0_1, v0_2] (cells_of (v := (.agg #[.int .i64 a0.Kind, v0_1, v0_2])) rfl rfl) ?_
  intro b1 w2 s3 B4 g5
  have fr6 := fr0.then0 s3
  refine wl_assign (.bool false) rfl ?_
  refine wl_nil ?_
  refine qn ?_
  refine wc_seq ?_
  have s7 := Stp.drew (w := w2) (hw := hw0) fr6.wf
  have fr8 := fr6.then0 s7
  have B9 := (B4.step0 s7)
  obtain ⟨t11, h12, h⟩ := Option.bind_eq_some_iff.1 h
  by_cases c21 : i64ok a0.Kind
  · replace h := (if_pos c21).symm.trans h
    refine wc_any (hw := hw0) mixed [[], [], [1], [0, 2], [3], [4], [4], [], [7, 5, 0, 0, 1, 2, 3, 4, 5, 7], [6, 8, 0, 1, 2, 3, 4, 5, 6, 7, 8]] [6, 7, 8, 9, 5, 10, 11, 3, 4] (by kernel_rfl) (PhiOf [fun v w hw => MapR Tryd.prog 3 (fun x : ScriptShape => Value.agg #[.string (bs x.word), .int .i64 x.nums, .int .i64 x.texts]) w hw v t11, fun v w hw => v = .pointer (some ⟨b1, 0, none⟩), fun v w hw => v = .int .i64 a0.Kind, fun v w hw => v = .tuple #[.agg #[.string (bs (((mfind t11 a0.Kind).getD (⟨[], 0, 0⟩ : ScriptShape)).word)), .int .i64 (((mfind t11 a0.Kind).getD (⟨[], 0, 0⟩ : ScriptShape)).nums), .int .i64 (((mfind t11 a0.Kind).getD (⟨[], 0, 0⟩ : ScriptShape)).texts)], .bool ((mfind t11 a0.Kind).isSome)], fun v w hw => v = .tuple #[.agg #[.string (bs (((mfind t11 a0.Kind).getD (⟨[], 0, 0⟩ : ScriptShape)).word)), .int .i64 (((mfind t11 a0.Kind).getD (⟨[], 0, 0⟩ : ScriptShape)).nums), .int .i64 (((mfind t11 a0.Kind).getD (⟨[], 0, 0⟩ : ScriptShape)).texts)], .bool ((mfind t11 a0.Kind).isSome)], fun v w hw => v = .agg #[.string (bs (((mfind t11 a0.Kind).getD (⟨[], 0, 0⟩ : ScriptShape)).word)), .int .i64 (((mfind t11 a0.Kind).getD (⟨[], 0, 0⟩ : ScriptShape)).nums), .int .i64 (((mfind t11 a0.Kind).getD (⟨[], 0, 0⟩ : ScriptShape)).texts)], fun v w hw => v = .bool ((mfind t11 a0.Kind).isSome), fun v w hw => True, fun v w hw => True, fun v w hw => v = .bool ((mfind t11 a0.Kind).isSome)]) (fun D σ w hw => Stp none w0 hw0 w hw ∧ Ext (w2).drew hw0 w hw ∧ Box w0.heap.size w hw b1 38 [.int .i64 a0.Kind, v0_1, v0_2] ∧ (bif D 7 then (Box w0.heap.size w hw (blk (σ 3)) 41 [(bif D 8 then .string (bs (((mfind t11 a0.Kind).getD (⟨[], 0, 0⟩ : ScriptShape)).word)) else .string (bs [])), (bif D 8 then .int .i64 (((mfind t11 a0.Kind).getD (⟨[], 0, 0⟩ : ScriptShape)).nums) else .int .i64 0), (bif D 8 then .int .i64 (((mfind t11 a0.Kind).getD (⟨[], 0, 0⟩ : ScriptShape)).texts) else .int .i64 0)] ∧ b1 ≠ (blk (σ 3))) else True) ∧ (bif D 7 then σ 3 = .pointer (some ⟨(blk (σ 3)), 0, none⟩) else True)) (stab_of (sbc (fun _ _ _ _ _ e h => MapR.ext e h) (sbc (fun _ _ _ _ _ _ h => h) (sbc (fun _ _ _ _ _ _ h => h) (sbc (fun _ _ _ _ _ _ h => h) (sbc (fun _ _ _ _ _ _ h => h) (sbc (fun _ _ _ _ _ _ h => h) (sbc (fun _ _ _ _ _ _ h => h) (sbc (fun _ _ _ _ _ _ h => h) (sbc (fun _ _ _ _ _ _ h => h) (sbc (fun _ _ _ _ _ _ h => h) sbn))))))))))) ?_ (stc ?_ (stc ?_ (stc ?_ (stc ?_ (stc ?_ (stc ?_ (stc ?_ (stc ?_ (stc ?_ (stc ?_ stn)))))))))) ?_
    · exact ⟨fr8, Ext.refl _ _, B9, trivial, trivial⟩
    · intro D33 σ34 w35 hw36 q37 q38 q39 q40 q41 q42
      obtain ⟨fr43, e44, C45, C46, C47⟩ := q37
      refine wl_call [] bod11 (mn _) (script_shapes.ok k fr43.wf _ h12) ?_
      rintro e48 w49 ⟨v52, hw50, rfl, s51, f53⟩
      refine ⟨_, rfl, ?_⟩
      have fr54 := fr43.then0 s51
      refine wl_nil ?_
      have B55 := (C45.step0 s51)
      exact qn ⟨_, _, rfl, s51.ext, ⟨fr54, e44.trans s51.ext, B55, (bif_mp (fun h => ⟨(h.1.step0 s51), h.2⟩) (fun h => h) C46), C47⟩, (aft_some f53)⟩
    · intro D56 σ57 w58 hw59 q60 q61 q62 q63 q64 q65
      obtain ⟨fr66, e67, C68, C69, C70⟩ := q60
      refine wl_field fld38_0 ((q63 1 rfl).trans rfl) ?_
      refine wl_nil ?_
      exact qn ⟨_, _, rfl, (Ext.refl _ _), ⟨fr66, e67.trans (Ext.refl _ _), C68, C69, C70⟩, (aft_some rfl)⟩
    · intro D71 σ72 w73 hw74 q75 q76 q77 q78 q79 q80
      obtain ⟨fr81, e82, C83, C84, C85⟩ := q75
      obtain ⟨⟨_, m86⟩, _⟩ := q77
      have z87 : (σ72 7) = .pointer (some ⟨b1, 0, none⟩) := m86
      refine wl_loadb1 C83 ty3 z87 (.int .i64 a0.Kind) rfl ?_
      refine wl_nil ?_
      exact qn ⟨_, _, rfl, (Ext.refl _ _), ⟨fr81, e82.trans (Ext.refl _ _), C83, C84, C85⟩, (aft_some rfl)⟩
    · intro D88 σ89 w90 hw91 q92 q93 q94 q95 q96 q97
      obtain ⟨fr98, e99, C100, C101, C102⟩ := q92
      obtain ⟨⟨_, m103⟩, ⟨_, m104⟩, _⟩ := q94
      have f105 : MapR Tryd.prog 3 (fun x : ScriptShape => Value.agg #[.string (bs x.word), .int .i64 x.nums, .int .i64 x.texts]) w90 hw91 (σ89 6) t11 := m103
      have z106 : (σ89 8) = .int .i64 a0.Kind := m104
      refine wl_lookR2 (⟨[], 0, 0⟩ : ScriptShape) f105 Tryd.underlying42 Tryd.underlying3 ty41 rfl z106 c21 ?_
      refine wl_nil ?_
      exact qn ⟨_, _, rfl, (Ext.refl _ _), ⟨fr98, e99.trans (Ext.refl _ _), C100, C101, C102⟩, (aft_some rfl)⟩
    · intro D107 σ108 w109 hw110 q111 q112 q113 q114 q115 q116
      obtain ⟨fr117, e118, C119, C120, C121⟩ := q111
      obtain ⟨⟨_, m122⟩, _⟩ := q113
      have z123 : (σ108 9) = .tuple #[.agg #[.string (bs (((mfind t11 a0.Kind).getD (⟨[], 0, 0⟩ : ScriptShape)).word)), .int .i64 (((mfind t11 a0.Kind).getD (⟨[], 0, 0⟩ : ScriptShape)).nums), .int .i64 (((mfind t11 a0.Kind).getD (⟨[], 0, 0⟩ : ScriptShape)).texts)], .bool ((mfind t11 a0.Kind).isSome)] := m122
      refine wl_move (.tuple #[.agg #[.string (bs (((mfind t11 a0.Kind).getD (⟨[], 0, 0⟩ : ScriptShape)).word)), .int .i64 (((mfind t11 a0.Kind).getD (⟨[], 0, 0⟩ : ScriptShape)).nums), .int .i64 (((mfind t11 a0.Kind).getD (⟨[], 0, 0⟩ : ScriptShape)).texts)], .bool ((mfind t11 a0.Kind).isSome)]) z123 ?_
      refine wl_nil ?_
      exact qn ⟨_, _, rfl, (Ext.refl _ _), ⟨fr117, e118.trans (Ext.refl _ _), C119, C120, C121⟩, (aft_some rfl)⟩
    · intro D124 σ125 w126 hw127 q128 q129 q130 q131 q132 q133
      obtain ⟨fr134, e135, C136, C137, C138⟩ := q128
      obtain ⟨⟨_, m139⟩, _⟩ := q130
      have z140 : (σ125 5) = .tuple #[.agg #[.string (bs (((mfind t11 a0.Kind).getD (⟨[], 0, 0⟩ : ScriptShape)).word)), .int .i64 (((mfind t11 a0.Kind).getD (⟨[], 0, 0⟩ : ScriptShape)).nums), .int .i64 (((mfind t11 a0.Kind).getD (⟨[], 0, 0⟩ : ScriptShape)).texts)], .bool ((mfind t11 a0.Kind).isSome)] := m139
      refine wl_extract (vs := [.agg #[.string (bs (((mfind t11 a0.Kind).getD (⟨[], 0, 0⟩ : ScriptShape)).word)), .int .i64 (((mfind t11 a0.Kind).getD (⟨[], 0, 0⟩ : ScriptShape)).nums), .int .i64 (((mfind t11 a0.Kind).getD (⟨[], 0, 0⟩ : ScriptShape)).texts)], .bool ((mfind t11 a0.Kind).isSome)]) (.agg #[.string (bs (((mfind t11 a0.Kind).getD (⟨[], 0, 0⟩ : ScriptShape)).word)), .int .i64 (((mfind t11 a0.Kind).getD (⟨[], 0, 0⟩ : ScriptShape)).nums), .int .i64 (((mfind t11 a0.Kind).getD (⟨[], 0, 0⟩ : ScriptShape)).texts)]) z140 rfl ?_
      refine wl_nil ?_
      exact qn ⟨_, _, rfl, (Ext.refl _ _), ⟨fr134, e135.trans (Ext.refl _ _), C136, C137, C138⟩, (aft_some rfl)⟩
    · intro D141 σ142 w143 hw144 q145 q146 q147 q148 q149 q150
      obtain ⟨fr151, e152, C153, C154, C155⟩ := q145
      obtain ⟨⟨_, m156⟩, _⟩ := q147
      have z157 : (σ142 5) = .tuple #[.agg #[.string (bs (((mfind t11 a0.Kind).getD (⟨[], 0, 0⟩ : ScriptShape)).word)), .int .i64 (((mfind t11 a0.Kind).getD (⟨[], 0, 0⟩ : ScriptShape)).nums), .int .i64 (((mfind t11 a0.Kind).getD (⟨[], 0, 0⟩ : ScriptShape)).texts)], .bool ((mfind t11 a0.Kind).isSome)] := m156
      refine wl_extract (vs := [.agg #[.string (bs (((mfind t11 a0.Kind).getD (⟨[], 0, 0⟩ : ScriptShape)).word)), .int .i64 (((mfind t11 a0.Kind).getD (⟨[], 0, 0⟩ : ScriptShape)).nums), .int .i64 (((mfind t11 a0.Kind).getD (⟨[], 0, 0⟩ : ScriptShape)).texts)], .bool ((mfind t11 a0.Kind).isSome)]) (.bool ((mfind t11 a0.Kind).isSome)) z157 rfl ?_
      refine wl_nil ?_
      exact qn ⟨_, _, rfl, (Ext.refl _ _), ⟨fr151, e152.trans (Ext.refl _ _), C153, C154, C155⟩, (aft_some rfl)⟩
    · intro D158 σ159 w160 hw161 q162 q163 q164 q165 q166 q167
      obtain ⟨fr168, e169, C170, C171, C172⟩ := q162
      refine wl_alloc fr168.wf fr168.g.size ty41 [.string (bs []), .int .i64 0, .int .i64 0] rfl ?_
      intro b173 w174 s175 B176 g177
      have n178 : b1 ≠ b173 := C170.ne g177
      have fr179 := fr168.then0 s175
      refine wl_nil ?_
      have B180 := (C170.step0 s175)
      exact qn ⟨_, _, rfl, s175.ext, ⟨fr179, e169.trans s175.ext, B180, ⟨(Box.retype B176 (show ([.string (bs []), .int .i64 0, .int .i64 0] : List Value) = [(bif D158 8 then .string (bs (((mfind t11 a0.Kind).getD (⟨[], 0, 0⟩ : ScriptShape)).word)) else .string (bs [])), (bif D158 8 then .int .i64 (((mfind t11 a0.Kind).getD (⟨[], 0, 0⟩ : ScriptShape)).nums) else .int .i64 0), (bif D158 8 then .int .i64 (((mfind t11 a0.Kind).getD (⟨[], 0, 0⟩ : ScriptShape)).texts) else .int .i64 0)] from by rw [show D158 8 = false from (q167 8 rfl)] <;> rfl)), n178⟩, rfl⟩, (aft_some trivial)⟩
    · intro D181 σ182 w183 hw184 q185 q186 q187 q188 q189 q190
      obtain ⟨fr191, e192, C193, C194, C195⟩ := q185
      obtain ⟨B196, n197⟩ := bif_t (q189 7 rfl) C194
      obtain ⟨⟨_, m198⟩, ⟨_, m199⟩, ⟨_, m200⟩, ⟨_, m201⟩, ⟨_, m202⟩, ⟨_, m203⟩, ⟨_, m204⟩, ⟨_, m205⟩, ⟨_, m206⟩, ⟨_, m207⟩, _⟩ := q187
      have z208 : (σ182 10) = .agg #[.string (bs (((mfind t11 a0.Kind).getD (⟨[], 0, 0⟩ : ScriptShape)).word)), .int .i64 (((mfind t11 a0.Kind).getD (⟨[], 0, 0⟩ : ScriptShape)).nums), .int .i64 (((mfind t11 a0.Kind).getD (⟨[], 0, 0⟩ : ScriptShape)).texts)] := m199
      have f209 : MapR Tryd.prog 3 (fun x : ScriptShape => Value.agg #[.string (bs x.word), .int .i64 x.nums, .int .i64 x.texts]) w183 hw184 (σ182 6) t11 := m200
      have z210 : (σ182 7) = .pointer (some ⟨b1, 0, none⟩) := m202
      have z211 : (σ182 8) = .int .i64 a0.Kind := m203
      have z212 : (σ182 9) = .tuple #[.agg #[.string (bs (((mfind t11 a0.Kind).getD (⟨[], 0, 0⟩ : ScriptShape)).word)), .int .i64 (((mfind t11 a0.Kind).getD (⟨[], 0, 0⟩ : ScriptShape)).nums), .int .i64 (((mfind t11 a0.Kind).getD (⟨[], 0, 0⟩ : ScriptShape)).texts)], .bool ((mfind t11 a0.Kind).isSome)] := m204
      have z213 : (σ182 5) = .tuple #[.agg #[.string (bs (((mfind t11 a0.Kind).getD (⟨[], 0, 0⟩ : ScriptShape)).word)), .int .i64 (((mfind t11 a0.Kind).getD (⟨[], 0, 0⟩ : ScriptShape)).nums), .int .i64 (((mfind t11 a0.Kind).getD (⟨[], 0, 0⟩ : ScriptShape)).texts)], .bool ((mfind t11 a0.Kind).isSome)] := m205
      have z214 := bif_t (q189 7 rfl) C195
      refine wl_store B196 fr191.wf ty41 z214 [.string (bs (((mfind t11 a0.Kind).getD (⟨[], 0, 0⟩ : ScriptShape)).word)), .int .i64 (((mfind t11 a0.Kind).getD (⟨[], 0, 0⟩ : ScriptShape)).nums), .int .i64 (((mfind t11 a0.Kind).getD (⟨[], 0, 0⟩ : ScriptShape)).texts)] (cells_of z208 rfl) rfl (Nat.le_of_ble_eq_true rfl) (by intro u hu; simp only [List.mem_cons, List.not_mem_nil, or_false] at hu; rcases hu with rfl | rfl | rfl <;> first | rfl | exact Dy.one _) [.string (bs (((mfind t11 a0.Kind).getD (⟨[], 0, 0⟩ : ScriptShape)).word)), .int .i64 (((mfind t11 a0.Kind).getD (⟨[], 0, 0⟩ : ScriptShape)).nums), .int .i64 (((mfind t11 a0.Kind).getD (⟨[], 0, 0⟩ : ScriptShape)).texts)] rfl ?_
      intro w215 s216 B217
      have fr218 := fr191.then s216 (fun _ e => (Option.some.inj e ▸ B196.new))
      refine wl_nil ?_
      have B219 := (C193.stepb s216 n197)
      exact qn ⟨_, _, rfl, s216.ext, ⟨fr218, e192.trans s216.ext, B219, (bif_up (q189 7 rfl) ⟨B217, n197⟩), C195⟩, aft_none⟩
    · intro D220 σ221 w222 hw223 q224 q225 q226 q227 q228 q229
      obtain ⟨fr230, e231, C232, C233, C234⟩ := q224
      obtain ⟨B235, n236⟩ := bif_t (q228 7 rfl) C233
      obtain ⟨⟨_, m237⟩, ⟨_, m238⟩, ⟨_, m239⟩, ⟨_, m240⟩, ⟨_, m241⟩, ⟨_, m242⟩, ⟨_, m243⟩, ⟨_, m244⟩, ⟨_, m245⟩, ⟨_, m246⟩, ⟨_, m247⟩, _⟩ := q226
      have z248 : (σ221 11) = .bool ((mfind t11 a0.Kind).isSome) := m237
      have f249 : MapR Tryd.prog 3 (fun x : ScriptShape => Value.agg #[.string (bs x.word), .int .i64 x.nums, .int .i64 x.texts]) w222 hw223 (σ221 6) t11 := m239
      have z250 : (σ221 7) = .pointer (some ⟨b1, 0, none⟩) := m240
      have z251 : (σ221 8) = .int .i64 a0.Kind := m241
      have z252 : (σ221 9) = .tuple #[.agg #[.string (bs (((mfind t11 a0.Kind).getD (⟨[], 0, 0⟩ : ScriptShape)).word)), .int .i64 (((mfind t11 a0.Kind).getD (⟨[], 0, 0⟩ : ScriptShape)).nums), .int .i64 (((mfind t11 a0.Kind).getD (⟨[], 0, 0⟩ : ScriptShape)).texts)], .bool ((mfind t11 a0.Kind).isSome)] := m242
      have z253 : (σ221 5) = .tuple #[.agg #[.string (bs (((mfind t11 a0.Kind).getD (⟨[], 0, 0⟩ : ScriptShape)).word)), .int .i64 (((mfind t11 a0.Kind).getD (⟨[], 0, 0⟩ : ScriptShape)).nums), .int .i64 (((mfind t11 a0.Kind).getD (⟨[], 0, 0⟩ : ScriptShape)).texts)], .bool ((mfind t11 a0.Kind).isSome)] := m243
      have z254 : (σ221 10) = .agg #[.string (bs (((mfind t11 a0.Kind).getD (⟨[], 0, 0⟩ : ScriptShape)).word)), .int .i64 (((mfind t11 a0.Kind).getD (⟨[], 0, 0⟩ : ScriptShape)).nums), .int .i64 (((mfind t11 a0.Kind).getD (⟨[], 0, 0⟩ : ScriptShape)).texts)] := m244
      have z255 := bif_t (q228 7 rfl) C234
      refine wl_assign (.bool ((mfind t11 a0.Kind).isSome)) z248 ?_
      refine wl_nil ?_
      exact qn ⟨_, _, rfl, (Ext.refl _ _), ⟨fr230, e231.trans (Ext.refl _ _), C232, (bif_up (q228 7 rfl) ⟨B235, n236⟩), C234⟩, (aft_some rfl)⟩
    · intro σ256 w257 hw258 q259 q260 q261
      obtain ⟨fr262, e263, C264, C265, C266⟩ := q259
      obtain ⟨B267, n268⟩ : Box w0.heap.size w257 hw258 (blk (σ256 3)) 41 [.string (bs (((mfind t11 a0.Kind).getD (⟨[], 0, 0⟩ : ScriptShape)).word)), .int .i64 (((mfind t11 a0.Kind).getD (⟨[], 0, 0⟩ : ScriptShape)).nums), .int .i64 (((mfind t11 a0.Kind).getD (⟨[], 0, 0⟩ : ScriptShape)).texts)] ∧ b1 ≠ (blk (σ256 3)) := C265
      obtain ⟨m269, m270, m271, m272, m273, m274, m275, m276, m277, m278, _⟩ := q261
      have f279 : MapR Tryd.prog 3 (fun x : ScriptShape => Value.agg #[.string (bs x.word), .int .i64 x.nums, .int .i64 x.texts]) w257 hw258 (σ256 6) t11 := m269
      have z280 : (σ256 4) = .bool ((mfind t11 a0.Kind).isSome) := m278
      have z281 : σ256 3 = .pointer (some ⟨(blk (σ256 3)), 0, none⟩) := C266
      refine qn ?_
      refine wc_seq ?_
      refine wc_region ?_
      refine wl_move (.bool ((mfind t11 a0.Kind).isSome)) z280 ?_
      refine wl_move (.bool ((mfind t11 a0.Kind).isSome)) rfl ?_
      refine wl_join 7 [14, 15, 16, 17, 18, 19, 20] 20 (.bool (((mfind t11 a0.Kind).isSome) && ((a0.Nums.length : Int) == (((mfind t11 a0.Kind).getD (⟨[], 0, 0⟩ : ScriptShape)).nums)))) ?_ ?_
      · rcases Bool.eq_false_or_eq_true ((mfind t11 a0.Kind).isSome) with hcc | hcc
        · skip
          refine wl_on (yl rfl rfl rfl) hcc ?_
          refine wl_field fld38_1 ((q260 1 rfl).trans rfl) ?_
          refine wl_on (yl rfl rfl rfl) hcc ?_
          refine wl_loadb1 C264 ty35 rfl (v0_1) rfl ?_
          refine wl_on (yl rfl rfl rfl) hcc ?_
          have f285 := q0_1.ext (s3.ext.trans (s7.ext.trans (e263)))
          obtain ⟨A282, c283, hv284⟩ := (f285).slice
          refine wl_len Tryd.underlying35 (show _ = Value.slice _ a0.Nums.length _ from (Eq.trans rfl hv284)) ?_
          refine wl_on (yl rfl rfl rfl) hcc ?_
          refine wl_field fld41_1 z281 ?_
          refine wl_on (yl rfl rfl rfl) hcc ?_
          refine wl_loadb1 B267 ty3 rfl (.int .i64 (((mfind t11 a0.Kind).getD (⟨[], 0, 0⟩ : ScriptShape)).nums)) rfl ?_
          refine wl_on (yl rfl rfl rfl) hcc ?_
          refine wl_eql rfl rfl ?_
          refine wl_pick_t ((mfind t11 a0.Kind).isSome) (.bool ((a0.Nums.length : Int) == (((mfind t11 a0.Kind).getD (⟨[], 0, 0⟩ : ScriptShape)).nums))) rfl hcc rfl ?_
          refine wl_nil ?_
          exact qn ⟨rfl, _, rfl, (by repeat (first | exact Same.refl _ _ | refine Same.upd ?_ rfl)), (by rw [hcc]; rfl)⟩
        · skip
          refine wl_off (yl rfl rfl rfl) hcc ?_
          refine wl_off (yl rfl rfl rfl) hcc ?_
          refine wl_off (yl rfl rfl rfl) hcc ?_
          refine wl_off (yl rfl rfl rfl) hcc ?_
          refine wl_off (yl rfl rfl rfl) hcc ?_
          refine wl_off (yl rfl rfl rfl) hcc ?_
          refine wl_pick_f ((mfind t11 a0.Kind).isSome) (.bool false) rfl hcc rfl ?_
          refine wl_nil ?_
          exact qn ⟨rfl, _, rfl, (by repeat (first | exact Same.refl _ _ | refine Same.upd ?_ rfl)), (by rw [hcc]; rfl)⟩
      intro _ ho286 hv287
      refine wl_move (.bool (((mfind t11 a0.Kind).isSome) && ((a0.Nums.length : Int) == (((mfind t11 a0.Kind).getD (⟨[], 0, 0⟩ : ScriptShape)).nums)))) hv287 ?_
      refine wl_join 7 [22, 23, 24, 25, 26, 27, 28] 28 (.bool ((((mfind t11 a0.Kind).isSome) && ((a0.Nums.length : Int) == (((mfind t11 a0.Kind).getD (⟨[], 0, 0⟩ : ScriptShape)).nums))) && ((a0.Texts.length : Int) == (((mfind t11 a0.Kind).getD (⟨[], 0, 0⟩ : ScriptShape)).texts)))) ?_ ?_
      · rcases Bool.eq_false_or_eq_true (((mfind t11 a0.Kind).isSome) && ((a0.Nums.length : Int) == (((mfind t11 a0.Kind).getD (⟨[], 0, 0⟩ : ScriptShape)).nums))) with hcc | hcc
        · skip
          refine wl_on (yl rfl rfl rfl) hcc ?_
          refine wl_field fld38_2 ((ho286 1 rfl).trans ((q260 1 rfl).trans rfl)) ?_
          refine wl_on (yl rfl rfl rfl) hcc ?_
          refine wl_loadb1 C264 ty36 rfl (v0_2) rfl ?_
          refine wl_on (yl rfl rfl rfl) hcc ?_
          have f291 := q0_2.ext (s3.ext.trans (s7.ext.trans (e263)))
          obtain ⟨A288, c289, hv290⟩ := (f291).slice
          refine wl_len Tryd.underlying36 (show _ = Value.slice _ a0.Texts.length _ from (Eq.trans rfl hv290)) ?_
          refine wl_on (yl rfl rfl rfl) hcc ?_
          refine wl_field fld41_2 ((ho286 3 rfl).trans z281) ?_
          refine wl_on (yl rfl rfl rfl) hcc ?_
          refine wl_loadb1 B267 ty3 rfl (.int .i64 (((mfind t11 a0.Kind).getD (⟨[], 0, 0⟩ : ScriptShape)).texts)) rfl ?_
          refine wl_on (yl rfl rfl rfl) hcc ?_
          refine wl_eql rfl rfl ?_
          refine wl_pick_t (((mfind t11 a0.Kind).isSome) && ((a0.Nums.length : Int) == (((mfind t11 a0.Kind).getD (⟨[], 0, 0⟩ : ScriptShape)).nums))) (.bool ((a0.Texts.length : Int) == (((mfind t11 a0.Kind).getD (⟨[], 0, 0⟩ : ScriptShape)).texts))) rfl hcc rfl ?_
          refine wl_nil ?_
          exact qn ⟨rfl, _, rfl, (by repeat (first | exact Same.refl _ _ | refine Same.upd ?_ rfl)), (by rw [hcc]; rfl)⟩
        · skip
          refine wl_off (yl rfl rfl rfl) hcc ?_
          refine wl_off (yl rfl rfl rfl) hcc ?_
          refine wl_off (yl rfl rfl rfl) hcc ?_
          refine wl_off (yl rfl rfl rfl) hcc ?_
          refine wl_off (yl rfl rfl rfl) hcc ?_
          refine wl_off (yl rfl rfl rfl) hcc ?_
          refine wl_pick_f (((mfind t11 a0.Kind).isSome) && ((a0.Nums.length : Int) == (((mfind t11 a0.Kind).getD (⟨[], 0, 0⟩ : ScriptShape)).nums))) (.bool false) rfl hcc rfl ?_
          refine wl_nil ?_
          exact qn ⟨rfl, _, rfl, (by repeat (first | exact Same.refl _ _ | refine Same.upd ?_ rfl)), (by rw [hcc]; rfl)⟩
      intro _ ho292 hv293
      refine wl_move (.bool ((((mfind t11 a0.Kind).isSome) && ((a0.Nums.length : Int) == (((mfind t11 a0.Kind).getD (⟨[], 0, 0⟩ : ScriptShape)).nums))) && ((a0.Texts.length : Int) == (((mfind t11 a0.Kind).getD (⟨[], 0, 0⟩ : ScriptShape)).texts)))) hv293 ?_
      by_cases c294 : ((((mfind t11 a0.Kind).isSome) && ((a0.Nums.length : Int) == (((mfind t11 a0.Kind).getD (⟨[], 0, 0⟩ : ScriptShape)).nums))) && ((a0.Texts.length : Int) == (((mfind t11 a0.Kind).getD (⟨[], 0, 0⟩ : ScriptShape)).texts))) = true
      · replace h := (if_pos c294).symm.trans h
        refine wl_on (yl rfl rfl rfl) c294 ?_
        refine wl_field fld38_1 ((ho292 1 rfl).trans ((ho286 1 rfl).trans ((q260 1 rfl).trans rfl))) ?_
        refine wl_on (yl rfl rfl rfl) c294 ?_
        refine wl_loadb1 C264 ty35 rfl (v0_1) rfl ?_
        refine wl_on (yl rfl rfl rfl) c294 ?_
        have f295 := q0_1.ext (s3.ext.trans (s7.ext.trans (e263)))
        have q296 : FnOk Tryd.prog w257 hw258 (.func (.func 29) #[] #[]) (V1 (Kint .i64)) Value.bool (fun x => script_right_c1.f k x) := by
          refine ⟨29, [], [], rfl, bod29, ?_⟩
          intro w' hw' e wf x va hva y hy
          obtain rfl : va = _ := (List.cons.inj hva).1
          exact script_right_c1.ok k wf x  _ hy
        obtain ⟨t297, h298, h⟩ := Option.bind_eq_some_iff.1 h
        refine wl_call [v0_1, .func (.func 29) #[] #[]] bod28 (mc rfl (mc rfl (mn _))) (slices_ContainsFunc_int_int.ok k fr262.wf a0.Nums (fun x => script_right_c1.f k x) v0_1 f295 (.func (.func 29) #[] #[]) q296 _ h298) ?_
        rintro e299 w300 ⟨hw301, rfl, s302⟩
        refine ⟨_, rfl, ?_⟩
        have fr303 := fr262.then0 s302
        refine wl_on (yl rfl rfl rfl) c294 ?_
        refine wl_not rfl ?_
        refine wl_pick_t ((((mfind t11 a0.Kind).isSome) && ((a0.Nums.length : Int) == (((mfind t11 a0.Kind).getD (⟨[], 0, 0⟩ : ScriptShape)).nums))) && ((a0.Texts.length : Int) == (((mfind t11 a0.Kind).getD (⟨[], 0, 0⟩ : ScriptShape)).texts))) (.bool (!t297)) rfl c294 rfl ?_
        refine wl_move (.bool (!t297)) rfl ?_
        by_cases c304 : t297 = true
        · replace h := (if_pos c304).symm.trans h
          refine wl_off (yl rfl rfl rfl) (by rw [c304] <;> rfl) ?_
          refine wl_off (yl rfl rfl rfl) (by rw [c304] <;> rfl) ?_
          refine wl_off (yl rfl rfl rfl) (by rw [c304] <;> rfl) ?_
          refine wl_off (yl rfl rfl rfl) (by rw [c304] <;> rfl) ?_
          refine wl_pick_f (!t297) (.bool false) rfl (by rw [c304] <;> rfl) rfl ?_
          refine wl_assign (.bool false) rfl ?_
          refine wl_nil ?_
          refine qn ?_
          refine wc_ret ?_
          have h := Option.some.inj h
          subst h
          refine end1 rfl (.tmp rfl .nil) ?_
          exact ⟨_, rfl, fr303⟩
        · replace h := (if_neg c304).symm.trans h
          have b305 : t297 = false := Bool.eq_false_iff.2 c304
          refine wl_on (yl rfl rfl rfl) (by rw [b305] <;> rfl) ?_
          refine wl_field fld38_2 ((ho292 1 rfl).trans ((ho286 1 rfl).trans ((q260 1 rfl).trans rfl))) ?_
          refine wl_on (yl rfl rfl rfl) (by rw [b305] <;> rfl) ?_
          have B306 := (C264.step0 s302)
          refine wl_loadb1 B306 ty36 rfl (v0_2) rfl ?_
          refine wl_on (yl rfl rfl rfl) (by rw [b305] <;> rfl) ?_
          have f307 := q0_2.ext (s3.ext.trans (s7.ext.trans (e263.trans (s302.ext))))
          have q308 : FnOk Tryd.prog w300 hw301 (.func (.func 31) #[] #[]) (V1 Kstr) Value.bool (fun x => script_right_c2.f k x) := by
            refine ⟨31, [], [], rfl, bod31, ?_⟩
            intro w' hw' e wf x va hva y hy
            obtain rfl : va = _ := (List.cons.inj hva).1
            exact script_right_c2.ok k wf x  _ hy
          obtain ⟨t309, h310, h⟩ := Option.bind_eq_some_iff.1 h
          have B315 := (B267.step0 s302)
          refine wl_call [v0_2, .func (.func 31) #[] #[]] bod30 (mc rfl (mc rfl (mn _))) (slices_ContainsFunc_string_string.ok k fr303.wf a0.Texts (fun x => script_right_c2.f k x) v0_2 f307 (.func (.func 31) #[] #[]) q308 _ h310) ?_
          rintro e311 w312 ⟨hw313, rfl, s314⟩
          refine ⟨_, rfl, ?_⟩
          have fr316 := fr303.then0 s314
          refine wl_on (yl rfl rfl rfl) (by rw [b305] <;> rfl) ?_
          refine wl_not rfl ?_
          refine wl_pick_t (!t297) (.bool (!t309)) rfl (by rw [b305] <;> rfl) rfl ?_
          refine wl_assign (.bool (!t309)) rfl ?_
          refine wl_nil ?_
          refine qn ?_
          refine wc_ret ?_
          have h := Option.some.inj h
          subst h
          refine end1 rfl (.tmp rfl .nil) ?_
          exact ⟨_, rfl, fr316⟩
      · replace h := (if_neg c294).symm.trans h
        have b317 : ((((mfind t11 a0.Kind).isSome) && ((a0.Nums.length : Int) == (((mfind t11 a0.Kind).getD (⟨[], 0, 0⟩ : ScriptShape)).nums))) && ((a0.Texts.length : Int) == (((mfind t11 a0.Kind).getD (⟨[], 0, 0⟩ : ScriptShape)).texts))) = false := Bool.eq_false_iff.2 c294
        refine wl_off (yl rfl rfl rfl) b317 ?_
        refine wl_off (yl rfl rfl rfl) b317 ?_
        refine wl_off (yl rfl rfl rfl) b317 ?_
        refine wl_off (yl rfl rfl rfl) b317 ?_
        refine wl_pick_f ((((mfind t11 a0.Kind).isSome) && ((a0.Nums.length : Int) == (((mfind t11 a0.Kind).getD (⟨[], 0, 0⟩ : ScriptShape)).nums))) && ((a0.Texts.length : Int) == (((mfind t11 a0.Kind).getD (⟨[], 0, 0⟩ : ScriptShape)).texts))) (.bool false) rfl b317 rfl ?_
        refine wl_move (.bool false) rfl ?_
        refine wl_off (yl rfl rfl rfl) rfl ?_
        refine wl_off (yl rfl rfl rfl) rfl ?_
        refine wl_off (yl rfl rfl rfl) rfl ?_
        refine wl_off (yl rfl rfl rfl) rfl ?_
        refine wl_pick_f false (.bool false) rfl rfl rfl ?_
        refine wl_assign (.bool false) rfl ?_
        refine wl_nil ?_
        refine qn ?_
        refine wc_ret ?_
        have h := Option.some.inj h
        subst h
        refine end1 rfl (.tmp rfl .nil) ?_
        exact ⟨_, rfl, fr262⟩
  · replace h := (if_neg c21).symm.trans h
    cases h
/-! ### consignor/script.Right$1: function 18 -/
def script_Right_c1.f (k : Nat) (a0 : ApiDeed) : Option Bool := (script_right.f k a0).bind fun t9 => (some (!t9))
set_option maxHeartbeats 1000000 in
theorem script_Right_c1.ok (k : Nat) {w0 : World} {hw0 : Hw} (wf : Hwf w0 hw0) (a0 : ApiDeed) (v0_1 : Value) (q0_1 : Row (Kint .i64) w0 hw0 v0_1 a0.Nums) (v0_2 : Value) (q0_2 : Row Kstr w0 hw0 v0_2 a0.Texts) (r : Bool) (h : script_Right_c1.f k a0 = some r) :
    Calls Tryd.prog 18 #[.agg #[.int .i64 a0.Kind, v0_1, v0_2]] w0 fun e w' => ∃ (hw' : Hw), e = .returned (.bool r) ∧ Stp none w0 hw0 w' hw' := by
  have fr0 := Stp.refl none (w := w0) (hw := hw0) wf
  unfold script_Right_c1.f at h
  refine enter (n := 6) Tryd.func18 rfl rfl (Nat.le_of_ble_eq_true rfl) ?_
  refine wc_seq ?_
  refine wc_region ?_
  refine wl_box fr0.wf fr0.g.size [.int .i64 a0.Kind, v0_1, v0_2] (cells_of (v := (.agg #[.int .i64 a0.Kind, v0_1, v0_2])) rfl rfl) ?_
  intro b1 w2 s3 B4 g5
  have fr6 := fr0.then0 s3
  refine wl_assign (.bool false) rfl ?_
  refine wl_nil ?_
  refine qn ?_
  refine wc_seq ?_
  refine wc_region ?_
  refine wl_loadb B4 ty38 rfl [.int .i64 a0.Kind, v0_1, v0_2] rfl rfl ?_
  have f7 := q0_1.ext (s3.ext)
  have f8 := q0_2.ext (s3.ext)
  obtain ⟨t9, h10, h⟩ := Option.bind_eq_some_iff.1 h
  refine wl_call [.agg #[.int .i64 a0.Kind, v0_1, v0_2]] bod19 (mc rfl (mn _)) (script_right.ok k fr6.wf a0 v0_1 f7 v0_2 f8 _ h10) ?_
  rintro e11 w12 ⟨hw13, rfl, s14⟩
  refine ⟨_, rfl, ?_⟩
  have fr15 := fr6.then0 s14
  refine wl_not rfl ?_
  refine wl_assign (.bool (!t9)) rfl ?_
  refine wl_nil ?_
  refine qn ?_
  refine wc_ret ?_
  have h := Option.some.inj h
  subst h
  refine end1 rfl (.tmp rfl .nil) ?_
  exact ⟨_, rfl, fr15⟩
/-! ### consignor/script.Right: function 9 -/
def script_Right.f (k : Nat) (a0 : ApiPlan) : Option Bool := (script_begins.f k a0).bind fun t8 => (if (t8 && (decide ((a0.Deeds.length : Int) ≤ 200))) = true then ((slices_ContainsFunc_api_Deed.f k a0.Deeds (fun x => script_Right_c1.f k x)).bind fun t26 => (some (!t26))) else (some false))
set_option maxHeartbeats 1000000 in
theorem script_Right.ok (k : Nat) {w0 : World} {hw0 : Hw} (wf : Hwf w0 hw0) (a0 : ApiPlan) (v0_2 : Value) (q0_2 : Row KApiDeed w0 hw0 v0_2 a0.Deeds) (r : Bool) (h : script_Right.f k a0 = some r) :
    Calls Tryd.prog 9 #[.agg #[.int .i64 a0.Quota, .int .i64 a0.Sectors, v0_2]] w0 fun e w' => ∃ (hw' : Hw), e = .returned (.bool r) ∧ Stp none w0 hw0 w' hw' := by
  have fr0 := Stp.refl none (w := w0) (hw := hw0) wf
  unfold script_Right.f at h
  refine enter (n := 17) Tryd.func9 rfl rfl (Nat.le_of_ble_eq_true rfl) ?_
  refine wc_seq ?_
  refine wc_region ?_
  refine wl_box fr0.wf fr0.g.size [.int .i64 a0.Quota, .int .i64 a0.Sectors, v0_2] (cells_of (v := (.agg #[.int .i64 a0.Quota, .int .i64 a0.Sectors, v0_2])) rfl rfl) ?_
  intro b1 w2 s3 B4 g5
  have fr6 := fr0.then0 s3
  refine wl_assign (.bool false) rfl ?_
  refine wl_nil ?_
  refine qn ?_
  refine wc_seq ?_
  refine wc_region ?_
  refine wl_loadb B4 ty24 rfl [.int .i64 a0.Quota, .int .i64 a0.Sectors, v0_2] rfl rfl ?_
  have f7 := q0_2.ext (s3.ext)
  obtain ⟨t8, h9, h⟩ := Option.bind_eq_some_iff.1 h
  refine wl_call [.agg #[.int .i64 a0.Quota, .int .i64 a0.Sectors, v0_2]] bod16 (mc rfl (mn _)) (script_begins.ok k fr6.wf a0 v0_2 f7 _ h9) ?_
  rintro e10 w11 ⟨hw12, rfl, s13⟩
  refine ⟨_, rfl, ?_⟩
  have fr14 := fr6.then0 s13
  refine wl_move (.bool t8) rfl ?_
  refine wl_join 5 [6, 7, 8, 9, 10] 10 (.bool (t8 && (decide ((a0.Deeds.length : Int) ≤ 200)))) ?_ ?_
  · rcases Bool.eq_false_or_eq_true t8 with hcc | hcc
    · skip
      refine wl_on (yl rfl rfl rfl) hcc ?_
      refine wl_field fld24_2 rfl ?_
      refine wl_on (yl rfl rfl rfl) hcc ?_
      have B15 := (B4.step0 s13)
      refine wl_loadb1 B15 ty22 rfl (v0_2) rfl ?_
      refine wl_on (yl rfl rfl rfl) hcc ?_
      have f19 := f7.ext (s13.ext)
      obtain ⟨A16, c17, hv18⟩ := (f19).slice
      refine wl_len Tryd.underlying22 (show _ = Value.slice _ a0.Deeds.length _ from (Eq.trans rfl hv18)) ?_
      refine wl_on (yl rfl rfl rfl) hcc ?_
      refine wl_leq rfl rfl ?_
      refine wl_pick_t t8 (.bool (decide ((a0.Deeds.length : Int) ≤ 200))) rfl hcc rfl ?_
      refine wl_nil ?_
      exact qn ⟨rfl, _, rfl, (by repeat (first | exact Same.refl _ _ | refine Same.upd ?_ rfl)), (by rw [hcc]; rfl)⟩
    · skip
      refine wl_off (yl rfl rfl rfl) hcc ?_
      refine wl_off (yl rfl rfl rfl) hcc ?_
      refine wl_off (yl rfl rfl rfl) hcc ?_
      refine wl_off (yl rfl rfl rfl) hcc ?_
      refine wl_pick_f t8 (.bool false) rfl hcc rfl ?_
      refine wl_nil ?_
      exact qn ⟨rfl, _, rfl, (by repeat (first | exact Same.refl _ _ | refine Same.upd ?_ rfl)), (by rw [hcc]; rfl)⟩
  intro _ ho20 hv21
  refine wl_move (.bool (t8 && (decide ((a0.Deeds.length : Int) ≤ 200)))) hv21 ?_
  by_cases c22 : (t8 && (decide ((a0.Deeds.length : Int) ≤ 200))) = true
  · replace h := (if_pos c22).symm.trans h
    refine wl_on (yl rfl rfl rfl) c22 ?_
    refine wl_field fld24_2 ((ho20 1 rfl).trans rfl) ?_
    refine wl_on (yl rfl rfl rfl) c22 ?_
    have B23 := (B4.step0 s13)
    refine wl_loadb1 B23 ty22 rfl (v0_2) rfl ?_
    refine wl_on (yl rfl rfl rfl) c22 ?_
    have f24 := f7.ext (s13.ext)
    have q25 : FnOk Tryd.prog w11 hw12 (.func (.func 18) #[] #[]) (VS KApiDeed) Value.bool (fun x => script_Right_c1.f k x) := by
      refine ⟨18, [], [], rfl, bod18, ?_⟩
      rintro w' hw' e wf x va ⟨_, rfl, y1, y2, rfl, g1, g2⟩ y hy
      exact script_Right_c1.ok k wf x y1 g1 y2 g2 _ hy
    obtain ⟨t26, h27, h⟩ := Option.bind_eq_some_iff.1 h
    refine wl_call [v0_2, .func (.func 18) #[] #[]] bod17 (mc rfl (mc rfl (mn _))) (slices_ContainsFunc_api_Deed.ok k fr14.wf a0.Deeds (fun x => script_Right_c1.f k x) v0_2 f24 (.func (.func 18) #[] #[]) q25 _ h27) ?_
    rintro e28 w29 ⟨hw30, rfl, s31⟩
    refine ⟨_, rfl, ?_⟩
    have fr32 := fr14.then0 s31
    refine wl_on (yl rfl rfl rfl) c22 ?_
    refine wl_not rfl ?_
    refine wl_pick_t (t8 && (decide ((a0.Deeds.length : Int) ≤ 200))) (.bool (!t26)) rfl c22 rfl ?_
    refine wl_assign (.bool (!t26)) rfl ?_
    refine wl_nil ?_
    refine qn ?_
    refine wc_ret ?_
    have h := Option.some.inj h
    subst h
    refine end1 rfl (.tmp rfl .nil) ?_
    exact ⟨_, rfl, fr32⟩
  · replace h := (if_neg c22).symm.trans h
    have b33 : (t8 && (decide ((a0.Deeds.length : Int) ≤ 200))) = false := Bool.eq_false_iff.2 c22
    refine wl_off (yl rfl rfl rfl) b33 ?_
    refine wl_off (yl rfl rfl rfl) b33 ?_
    refine wl_off (yl rfl rfl rfl) b33 ?_
    refine wl_off (yl rfl rfl rfl) b33 ?_
    refine wl_pick_f (t8 && (decide ((a0.Deeds.length : Int) ≤ 200))) (.bool false) rfl b33 rfl ?_
    refine wl_assign (.bool false) rfl ?_
    refine wl_nil ?_
    refine qn ?_
    refine wc_ret ?_
    have h := Option.some.inj h
    subst h
    refine end1 rfl (.tmp rfl .nil) ?_
    exact ⟨_, rfl, fr14⟩
/-! ### consignor/script.digits: function 20 -/
def script_digits.f : Nat → Int → Option (List UInt8)
  | 0, _ => none
  | k + 1, a0 => if a0 < 10 then (some (ofInts ([(IntKind.u8.wrap (IntKind.i64.wrap (48 + (Int.tmod a0 10))))]))) else ((script_digits.f k (IntKind.i64.wrap (Int.tdiv a0 10))).bind fun t11 => (if t11.length + (ofInts ([(IntKind.u8.wrap (IntKind.i64.wrap (48 + (Int.tmod a0 10))))])).length ≤ 9223372036854775807 then (some (t11 ++ (ofInts ([(IntKind.u8.wrap (IntKind.i64.wrap (48 + (Int.tmod a0 10))))])))) else none))
set_option maxHeartbeats 1000000 in
theorem script_digits.ok : ∀ (k : Nat) {w0 : World} {hw0 : Hw} (wf : Hwf w0 hw0) (a0 : Int) (r : (List UInt8)) (h : script_digits.f k a0 = some r),
    Calls Tryd.prog 20 #[.int .i64 a0] w0 fun e w' => ∃ (hw' : Hw), e = .returned (.string (bs r)) ∧ Stp none w0 hw0 w' hw' := by
  intro k
  induction k using Nat.strongRecOn with
  | _ k ih =>
  intro w0 hw0 wf a0 r h
  have fr0 := Stp.refl none (w := w0) (hw := hw0) wf
  rcases k with _ | k
  · rw [script_digits.f] at h; cases h
  rw [script_digits.f] at h
  refine enter (n := 18) Tryd.func20 rfl rfl (Nat.le_of_ble_eq_true rfl) ?_
  refine wc_seq ?_
  refine wc_region ?_
  refine wl_assign (.string (bs [])) rfl ?_
  refine wl_nil ?_
  refine qn ?_
  refine wc_seq ?_
  refine wc_region ?_
  refine wl_move (.int .i64 a0) rfl ?_
  refine wl_rem rfl rfl (by decide) ?_
  refine wl_add rfl rfl ?_
  refine wl_conv_int Tryd.underlying3 Tryd.underlying5 rfl ?_
  have hb1 : ∀ w : World, (Instr.buildSlice 98 1 #[(0, .int .u8 (IntKind.u8.wrap (IntKind.i64.wrap (48 + (Int.tmod a0 10)))))]).run Tryd.prog w = .ok (.slice (some ⟨w.heap.size, 0, none⟩) 1 1) (w.alloc (.cells (List.toArray [.int .u8 (IntKind.u8.wrap (IntKind.i64.wrap (48 + (Int.tmod a0 10))))]) 5)) := fun _ => by kernel_rfl
  refine wl_lit (KD := (Kint .u8)) fr0.wf [.int .u8 (IntKind.u8.wrap (IntKind.i64.wrap (48 + (Int.tmod a0 10))))] [(IntKind.u8.wrap (IntKind.i64.wrap (48 + (Int.tmod a0 10))))] (pc rfl (pn _ _)) (hb1 _) rfl (by decide) ⟨[.int .u8 (IntKind.u8.wrap (IntKind.i64.wrap (48 + (Int.tmod a0 10))))], _, rfl, rfl, rfl⟩ ?_
  intro v2 w3 hw4 O6 s5
  replace O6 := O6.low fr0.g.size
  have fr7 := fr0.then0 s5
  refine wl_conv_bytes Tryd.underlying98 Tryd.underlying5 Tryd.underlying9 O6.row rfl ?_
  refine wl_assign (.string (bs (ofInts ([(IntKind.u8.wrap (IntKind.i64.wrap (48 + (Int.tmod a0 10))))])))) rfl ?_
  refine wl_nil ?_
  refine qn ?_
  refine wc_seq ?_
  refine wc_seq ?_
  refine wc_region ?_
  refine wl_move (.int .i64 a0) rfl ?_
  refine wl_lss rfl rfl ?_
  refine wl_nil ?_
  refine qn ?_
  by_cases c8 : a0 < 10
  · replace h := (if_pos c8).symm.trans h
    have b9 : (decide (a0 < 10)) = true := decide_eq_true c8
    refine wc_then rfl b9 ?_
    refine wc_seq ?_
    refine wc_region ?_
    refine wl_move (.string (bs (ofInts ([(IntKind.u8.wrap (IntKind.i64.wrap (48 + (Int.tmod a0 10))))])))) rfl ?_
    refine wl_assign (.string (bs (ofInts ([(IntKind.u8.wrap (IntKind.i64.wrap (48 + (Int.tmod a0 10))))])))) rfl ?_
    refine wl_nil ?_
    refine qn ?_
    refine wc_ret ?_
    refine qr ?_
    have h := Option.some.inj h
    subst h
    refine end1 rfl (.tmp rfl .nil) ?_
    exact ⟨_, rfl, fr7⟩
  · replace h := (if_neg c8).symm.trans h
    have b10 : (decide (a0 < 10)) = false := decide_eq_false c8
    refine wc_else rfl b10 ?_
    refine wc_skip ?_
    refine qn ?_
    refine wc_seq ?_
    refine wc_region ?_
    refine wl_move (.int .i64 a0) rfl ?_
    refine wl_quo rfl rfl (by decide) ?_
    obtain ⟨t11, h12, h⟩ := Option.bind_eq_some_iff.1 h
    refine wl_call [.int .i64 (IntKind.i64.wrap (Int.tdiv a0 10))] bod20 (mc rfl (mn _)) (ih k (by omega) fr7.wf (IntKind.i64.wrap (Int.tdiv a0 10)) _ h12) ?_
    rintro e13 w14 ⟨hw15, rfl, s16⟩
    refine ⟨_, rfl, ?_⟩
    have fr17 := fr7.then0 s16
    refine wl_move (.string (bs (ofInts ([(IntKind.u8.wrap (IntKind.i64.wrap (48 + (Int.tmod a0 10))))])))) rfl ?_
    by_cases c18 : t11.length + (ofInts ([(IntKind.u8.wrap (IntKind.i64.wrap (48 + (Int.tmod a0 10))))])).length ≤ 9223372036854775807
    · replace h := (if_pos c18).symm.trans h
      refine wl_adds rfl rfl c18 ?_
      refine wl_assign (.string (bs (t11 ++ (ofInts ([(IntKind.u8.wrap (IntKind.i64.wrap (48 + (Int.tmod a0 10))))]))))) rfl ?_
      refine wl_nil ?_
      refine qn ?_
      refine wc_ret ?_
      have h := Option.some.inj h
      subst h
      refine end1 rfl (.tmp rfl .nil) ?_
      exact ⟨_, rfl, fr17⟩
    · replace h := (if_neg c18).symm.trans h
      cases h
/-! ### consignor/octet.Hex: function 21 -/
def octet_Hex.l0 : Nat → (List UInt8) → Int → List UInt8 → Option (List UInt8)
  | 0, _, _, _ => none
  | k + 1, a0, x7, x8 => if x7 < (a0.length : Int) then (if 0 ≤ x7 then (if x7 < (a0.length : Int) then (if 0 ≤ (IntKind.u8.wrap (Int.tdiv ((a0.getD (Int.toNat x7) 0).toNat : Int) 16)) then (if (IntKind.u8.wrap (Int.tdiv ((a0.getD (Int.toNat x7) 0).toNat : Int) 16)) < (([48, 49, 50, 51, 52, 53, 54, 55, 56, 57, 97, 98, 99, 100, 101, 102] : List UInt8).length : Int) then (if i8ok ((([48, 49, 50, 51, 52, 53, 54, 55, 56, 57, 97, 98, 99, 100, 101, 102] : List UInt8).getD (Int.toNat (IntKind.u8.wrap (Int.tdiv ((a0.getD (Int.toNat x7) 0).toNat : Int) 16))) 0).toNat : Int) ∧ x8.length + 1 ≤ 140737488355328 then (if 0 ≤ x7 then (if x7 < (a0.length : Int) then (if 0 ≤ (Int.tmod ((a0.getD (Int.toNat x7) 0).toNat : Int) 16) then (if (Int.tmod ((a0.getD (Int.toNat x7) 0).toNat : Int) 16) < (([48, 49, 50, 51, 52, 53, 54, 55, 56, 57, 97, 98, 99, 100, 101, 102] : List UInt8).length : Int) then (if i8ok ((([48, 49, 50, 51, 52, 53, 54, 55, 56, 57, 97, 98, 99, 100, 101, 102] : List UInt8).getD (Int.toNat (Int.tmod ((a0.getD (Int.toNat x7) 0).toNat : Int) 16)) 0).toNat : Int) ∧ (x8 ++ [byteOf ((([48, 49, 50, 51, 52, 53, 54, 55, 56, 57, 97, 98, 99, 100, 101, 102] : List UInt8).getD (Int.toNat (IntKind.u8.wrap (Int.tdiv ((a0.getD (Int.toNat x7) 0).toNat : Int) 16))) 0).toNat : Int)]).length + 1 ≤ 140737488355328 then (octet_Hex.l0 k a0 (IntKind.i64.wrap (x7 + 1)) ((x8 ++ [byteOf ((([48, 49, 50, 51, 52, 53, 54, 55, 56, 57, 97, 98, 99, 100, 101, 102] : List UInt8).getD (Int.toNat (IntKind.u8.wrap (Int.tdiv ((a0.getD (Int.toNat x7) 0).toNat : Int) 16))) 0).toNat : Int)]) ++ [byteOf ((([48, 49, 50, 51, 52, 53, 54, 55, 56, 57, 97, 98, 99, 100, 101, 102] : List UInt8).getD (Int.toNat (Int.tmod ((a0.getD (Int.toNat x7) 0).toNat : Int) 16)) 0).toNat : Int)])) else none) else none) else none) else none) else none) else none) else none) else none) else none) else none) else (some x8)
def octet_Hex.f (k : Nat) (a0 : (List UInt8)) : Option (List UInt8) := octet_Hex.l0 k a0 0 []
set_option maxHeartbeats 1000000 in
theorem octet_Hex.ok (k : Nat) {w0 : World} {hw0 : Hw} (wf : Hwf w0 hw0) (a0 : (List UInt8)) (r : (List UInt8)) (h : octet_Hex.f k a0 = some r) :
    Calls Tryd.prog 21 #[.string (bs a0)] w0 fun e w' => ∃ (hw' : Hw), e = .returned (.string (bs r)) ∧ Stp none w0 hw0 w' hw' := by
  have fr0 := Stp.refl none (w := w0) (hw := hw0) wf
  unfold octet_Hex.f at h
  refine enter (n := 24) Tryd.func21 rfl rfl (Nat.le_of_ble_eq_true rfl) ?_
  refine wc_seq ?_
  refine wc_region ?_
  refine wl_assign (.string (bs [])) rfl ?_
  refine wl_nil ?_
  refine qn ?_
  refine wc_seq ?_
  refine wc_region ?_
  refine wl_bld (e := 5) fr0.wf fr0.g.size ty101 ?_
  intro b1 w2 s3 B4 g5
  have fr6 := fr0.then0 s3
  refine wl_nil ?_
  refine qn ?_
  refine wc_seq ?_
  refine wc_seq ?_
  refine wc_region ?_
  refine wl_move (.string (bs a0)) rfl ?_
  refine wl_lens Tryd.underlying9 rfl ?_
  refine wl_move (.int .i64 0) rfl ?_
  refine wl_nil ?_
  refine qn ?_
  refine wc_block ?_
  refine wc_loop (fun m a w => ∃ (σ : Nat → Value) (hw : Hw) (kq : Nat) (x7 : Int) (x8 : List UInt8), a = mkA 24 σ ∧ kq ≤ m ∧ kq ≤ k ∧ Stp none w0 hw0 w hw ∧ Ext w2 hw0 w hw ∧ σ 0 = .string (bs a0) ∧ σ 3 = .pointer (some ⟨b1, 0, none⟩) ∧ σ 6 = .int .i64 (a0.length : Int) ∧ σ 7 = .int .i64 x7 ∧ Bld 101 5 w0.heap.size w hw b1 x8 ∧ octet_Hex.l0 kq a0 x7 x8 = some r) k ?_ ?_ ?_
  · skip
    exact ⟨_, _, _, 0, [], rfl, (Nat.le_refl _), (Nat.le_refl _), fr6, (Ext.refl _ _), rfl, rfl, rfl, rfl, B4, h⟩
  · rintro _ _ ⟨_, hw10, k11, x7, x8, rfl, hk14, hk15, fr12, e13, z16, z17, z18, z19, B20, h⟩; obtain rfl := Nat.le_zero.1 hk14; rw [octet_Hex.l0] at h; cases h
  · rintro m0 _ w9 ⟨_, hw10, k11, x7, x8, rfl, hk14, hk15, fr12, e13, z16, z17, z18, z19, B20, h⟩
    rcases k11 with _ | k11
    · rw [octet_Hex.l0] at h; cases h
    rw [octet_Hex.l0] at h
    refine wc_seq ?_
    refine wc_region ?_
    refine wl_lss z19 z18 ?_
    refine wl_nil ?_
    refine qn ?_
    refine wc_seq ?_
    by_cases c21 : x7 < (a0.length : Int)
    · replace h := (if_pos c21).symm.trans h
      have b22 : (decide (x7 < (a0.length : Int))) = true := decide_eq_true c21
      refine wc_then rfl b22 ?_
      refine wc_skip ?_
      refine qn ?_
      refine wc_seq ?_
      refine wc_block ?_
      refine wc_seq ?_
      refine wc_region ?_
      refine wl_move (.int .i64 x7) z19 ?_
      refine wl_assign (.int .i64 x7) rfl ?_
      refine wl_nil ?_
      refine qn ?_
      refine wc_seq ?_
      refine wc_region ?_
      refine wl_move (.string (bs a0)) z16 ?_
      refine wl_move (.int .i64 x7) rfl ?_
      by_cases c23 : 0 ≤ x7
      · replace h := (if_pos c23).symm.trans h
        by_cases c24 : x7 < (a0.length : Int)
        · replace h := (if_pos c24).symm.trans h
          refine wl_bt Tryd.underlying9 rfl rfl c23 c24 ?_
          refine wl_quo rfl rfl (by decide) ?_
          by_cases c25 : 0 ≤ (IntKind.u8.wrap (Int.tdiv ((a0.getD (Int.toNat x7) 0).toNat : Int) 16))
          · replace h := (if_pos c25).symm.trans h
            by_cases c26 : (IntKind.u8.wrap (Int.tdiv ((a0.getD (Int.toNat x7) 0).toNat : Int) 16)) < (([48, 49, 50, 51, 52, 53, 54, 55, 56, 57, 97, 98, 99, 100, 101, 102] : List UInt8).length : Int)
            · replace h := (if_pos c26).symm.trans h
              refine wl_bt Tryd.underlying9 rfl rfl c25 c26 ?_
              by_cases c27 : i8ok ((([48, 49, 50, 51, 52, 53, 54, 55, 56, 57, 97, 98, 99, 100, 101, 102] : List UInt8).getD (Int.toNat (IntKind.u8.wrap (Int.tdiv ((a0.getD (Int.toNat x7) 0).toNat : Int) 16))) 0).toNat : Int) ∧ x8.length + 1 ≤ 140737488355328
              · replace h := (if_pos c27).symm.trans h
                refine wl_call [.pointer (some ⟨b1, 0, none⟩), .int .u8 ((([48, 49, 50, 51, 52, 53, 54, 55, 56, 57, 97, 98, 99, 100, 101, 102] : List UInt8).getD (Int.toNat (IntKind.u8.wrap (Int.tdiv ((a0.getD (Int.toNat x7) 0).toNat : Int) 16))) 0).toNat : Int)] bod32 (mc z17 (mc rfl (mn _))) (bld_WriteByte fr12.wf B20 fr12.g.size c27.1 c27.2) ?_
                rintro e31 w28 ⟨hw29, rfl, s30, B32⟩
                refine ⟨_, rfl, ?_⟩
                have fr33 := fr12.thenS s30 B20.bfnew
                refine wl_nil ?_
                refine qn ?_
                refine wc_region ?_
                refine wl_move (.string (bs a0)) z16 ?_
                refine wl_move (.int .i64 x7) rfl ?_
                by_cases c34 : 0 ≤ x7
                · replace h := (if_pos c34).symm.trans h
                  by_cases c35 : x7 < (a0.length : Int)
                  · replace h := (if_pos c35).symm.trans h
                    refine wl_bt Tryd.underlying9 rfl rfl c34 c35 ?_
                    refine wl_rem rfl rfl (by decide) ?_
                    by_cases c36 : 0 ≤ (Int.tmod ((a0.getD (Int.toNat x7) 0).toNat : Int) 16)
                    · replace h := (if_pos c36).symm.trans h
                      by_cases c37 : (Int.tmod ((a0.getD (Int.toNat x7) 0).toNat : Int) 16) < (([48, 49, 50, 51, 52, 53, 54, 55, 56, 57, 97, 98, 99, 100, 101, 102] : List UInt8).length : Int)
                      · replace h := (if_pos c37).symm.trans h
                        refine wl_bt Tryd.underlying9 rfl rfl c36 c37 ?_
                        by_cases c38 : i8ok ((([48, 49, 50, 51, 52, 53, 54, 55, 56, 57, 97, 98, 99, 100, 101, 102] : List UInt8).getD (Int.toNat (Int.tmod ((a0.getD (Int.toNat x7) 0).toNat : Int) 16)) 0).toNat : Int) ∧ (x8 ++ [byteOf ((([48, 49, 50, 51, 52, 53, 54, 55, 56, 57, 97, 98, 99, 100, 101, 102] : List UInt8).getD (Int.toNat (IntKind.u8.wrap (Int.tdiv ((a0.getD (Int.toNat x7) 0).toNat : Int) 16))) 0).toNat : Int)]).length + 1 ≤ 140737488355328
                        · replace h := (if_pos c38).symm.trans h
                          refine wl_call [.pointer (some ⟨b1, 0, none⟩), .int .u8 ((([48, 49, 50, 51, 52, 53, 54, 55, 56, 57, 97, 98, 99, 100, 101, 102] : List UInt8).getD (Int.toNat (Int.tmod ((a0.getD (Int.toNat x7) 0).toNat : Int) 16)) 0).toNat : Int)] bod32 (mc z17 (mc rfl (mn _))) (bld_WriteByte fr33.wf B32 fr33.g.size c38.1 c38.2) ?_
                          rintro e42 w39 ⟨hw40, rfl, s41, B43⟩
                          refine ⟨_, rfl, ?_⟩
                          have fr44 := fr33.thenS s41 B32.bfnew
                          refine wl_nil ?_
                          refine bn ?_
                          refine qn ?_
                          refine wc_region ?_
                          refine wl_add z19 rfl ?_
                          refine wl_move (.int .i64 (IntKind.i64.wrap (x7 + 1))) rfl ?_
                          refine wl_nil ?_
                          refine qn ?_
                          exact ⟨_, _, _, (IntKind.i64.wrap (x7 + 1)), ((x8 ++ [byteOf ((([48, 49, 50, 51, 52, 53, 54, 55, 56, 57, 97, 98, 99, 100, 101, 102] : List UInt8).getD (Int.toNat (IntKind.u8.wrap (Int.tdiv ((a0.getD (Int.toNat x7) 0).toNat : Int) 16))) 0).toNat : Int)]) ++ [byteOf ((([48, 49, 50, 51, 52, 53, 54, 55, 56, 57, 97, 98, 99, 100, 101, 102] : List UInt8).getD (Int.toNat (Int.tmod ((a0.getD (Int.toNat x7) 0).toNat : Int) 16)) 0).toNat : Int)]), rfl, (by omega), (by omega), fr44, (Ext.trans e13 (Ext.trans s30.ext s41.ext)), z16, z17, z18, rfl, B43, h⟩
                        · replace h := (if_neg c38).symm.trans h
                          cases h
                      · replace h := (if_neg c37).symm.trans h
                        cases h
                    · replace h := (if_neg c36).symm.trans h
                      cases h
                  · replace h := (if_neg c35).symm.trans h
                    cases h
                · replace h := (if_neg c34).symm.trans h
                  cases h
              · replace h := (if_neg c27).symm.trans h
                cases h
            · replace h := (if_neg c26).symm.trans h
              cases h
          · replace h := (if_neg c25).symm.trans h
            cases h
        · replace h := (if_neg c24).symm.trans h
          cases h
      · replace h := (if_neg c23).symm.trans h
        cases h
    · replace h := (if_neg c21).symm.trans h
      have b45 : (decide (x7 < (a0.length : Int))) = false := decide_eq_false c21
      refine wc_else rfl b45 ?_
      refine wc_exit ?_
      refine qe ?_
      refine qe ?_
      refine be ?_
      refine qn ?_
      refine wc_seq ?_
      refine wc_region ?_
      refine wl_call [.pointer (some ⟨b1, 0, none⟩)] bod33 (mc z17 (mn _)) (bld_String fr12.wf B20 fr12.g.size) ?_
      rintro e48 w46 ⟨rfl, s47⟩
      refine ⟨_, rfl, ?_⟩
      have fr49 := fr12.thenS s47 B20.bfnew
      refine wl_assign (.string (bs x8)) rfl ?_
      refine wl_nil ?_
      refine qn ?_
      refine wc_ret ?_
      have h := Option.some.inj h
      subst h
      refine end1 rfl (.tmp rfl .nil) ?_
      exact ⟨_, rfl, fr49⟩
/-! ### consignor/script.line: function 10 -/
mutual
def script_line.l1 : Nat → (List (List UInt8)) → List UInt8 → Int → Option (List UInt8)
  | 0, _, _, _ => none
  | k + 1, a2, x44, x45 => if x45 < (a2.length : Int) then (if 0 ≤ x45 then ((a2[Int.toNat x45]?).bind fun t60 => ((octet_Hex.f k t60).bind fun t69 => (if ([32, 120] : List UInt8).length + t69.length ≤ 9223372036854775807 then (if x44.length + (([32, 120] : List UInt8) ++ t69).length ≤ 9223372036854775807 then (script_line.l1 k a2 (x44 ++ (([32, 120] : List UInt8) ++ t69)) (IntKind.i64.wrap (x45 + 1))) else none) else none))) else none) else (if x44.length + ([10] : List UInt8).length ≤ 9223372036854775807 then (some (x44 ++ ([10] : List UInt8))) else none)
def script_line.l0 : Nat → (List Int) → (List (List UInt8)) → List UInt8 → Int → Option (List UInt8)
  | 0, _, _, _, _ => none
  | k + 1, a1, a2, x4, x5 => if x5 < (a1.length : Int) then (if 0 ≤ x5 then ((a1[Int.toNat x5]?).bind fun t21 => ((script_digits.f k t21).bind fun t30 => (if ([32] : List UInt8).length + t30.length ≤ 9223372036854775807 then (if x4.length + (([32] : List UInt8) ++ t30).length ≤ 9223372036854775807 then (script_line.l0 k a1 a2 (x4 ++ (([32] : List UInt8) ++ t30)) (IntKind.i64.wrap (x5 + 1))) else none) else none))) else none) else (script_line.l1 k a2 x4 0)
end
def script_line.f (k : Nat) (a0 : (List UInt8)) (a1 : (List Int)) (a2 : (List (List UInt8))) : Option (List UInt8) := script_line.l0 k a1 a2 a0 0
set_option maxHeartbeats 1000000 in
theorem script_line.ok (k : Nat) {w0 : World} {hw0 : Hw} (wf : Hwf w0 hw0) (a0 : (List UInt8)) (a1 : (List Int)) (a2 : (List (List UInt8))) (v1_ : Value) (q1 : Row (Kint .i64) w0 hw0 v1_ a1) (v2_ : Value) (q2 : Row Kstr w0 hw0 v2_ a2) (r : (List UInt8)) (h : script_line.f k a0 a1 a2 = some r) :
    Calls Tryd.prog 10 #[.string (bs a0), v1_, v2_] w0 fun e w' => ∃ (hw' : Hw), e = .returned (.string (bs r)) ∧ Stp none w0 hw0 w' hw' := by
  have fr0 := Stp.refl none (w := w0) (hw := hw0) wf
  unfold script_line.f at h
  refine enter (n := 37) Tryd.func10 rfl rfl (Nat.le_of_ble_eq_true rfl) ?_
  refine wc_seq ?_
  refine wc_region ?_
  refine wl_assign (.string (bs [])) rfl ?_
  refine wl_nil ?_
  refine qn ?_
  refine wc_seq ?_
  refine wc_seq ?_
  refine wc_region ?_
  refine wl_move (v1_) rfl ?_
  obtain ⟨A1, c2, hv3⟩ := (q1).slice
  refine wl_len Tryd.underlying35 (show _ = Value.slice _ a1.length _ from (Eq.trans rfl hv3)) ?_
  refine wl_move (.int .i64 0) rfl ?_
  refine wl_nil ?_
  refine qn ?_
  refine wc_block ?_
  refine wc_loop (fun m a w => ∃ (σ : Nat → Value) (hw : Hw) (kq : Nat) (x4 : List UInt8) (x5 : Int), a = mkA 37 σ ∧ kq ≤ m ∧ kq ≤ k ∧ Stp none w0 hw0 w hw ∧ Ext w0 hw0 w hw ∧ σ 0 = .string (bs x4) ∧ σ 2 = v2_ ∧ σ 11 = v1_ ∧ σ 12 = .int .i64 (a1.length : Int) ∧ σ 13 = .int .i64 x5 ∧ script_line.l0 kq a1 a2 x4 x5 = some r) k ?_ ?_ ?_
  · skip
    exact ⟨_, _, _, a0, 0, rfl, (Nat.le_refl _), (Nat.le_refl _), fr0, (Ext.refl _ _), rfl, rfl, rfl, rfl, rfl, h⟩
  · rintro _ _ ⟨_, hw7, k8, x4, x5, rfl, hk11, hk12, fr9, e10, z13, z14, z15, z16, z17, h⟩; obtain rfl := Nat.le_zero.1 hk11; rw [script_line.l0] at h; cases h
  · rintro m0 _ w6 ⟨_, hw7, k8, x4, x5, rfl, hk11, hk12, fr9, e10, z13, z14, z15, z16, z17, h⟩
    rcases k8 with _ | k8
    · rw [script_line.l0] at h; cases h
    rw [script_line.l0] at h
    refine wc_seq ?_
    refine wc_region ?_
    refine wl_lss z17 z16 ?_
    refine wl_nil ?_
    refine qn ?_
    refine wc_seq ?_
    by_cases c18 : x5 < (a1.length : Int)
    · replace h := (if_pos c18).symm.trans h
      have b19 : (decide (x5 < (a1.length : Int))) = true := decide_eq_true c18
      refine wc_then rfl b19 ?_
      refine wc_skip ?_
      refine qn ?_
      refine wc_seq ?_
      refine wc_block ?_
      refine wc_seq ?_
      refine wc_region ?_
      by_cases c20 : 0 ≤ x5
      · replace h := (if_pos c20).symm.trans h
        obtain ⟨t21, h22, h⟩ := Option.bind_eq_some_iff.1 h
        have c23 := at_lt c20 h22
        have f29 := q1.ext (e10)
        refine wl_at Tryd.underlying35 ty3 f29 z15 z17 c20 c23 t21 h22 ?_
        rintro B24 o25 cs26 rfl l28
        refine wl_load1 ty3 rfl (.int .i64 t21) (l28.2 0 _ rfl) ?_
        refine wl_assign (.int .i64 t21) rfl ?_
        refine wl_nil ?_
        refine qn ?_
        refine wc_region ?_
        refine wl_move (.string (bs x4)) z13 ?_
        refine wl_move (.int .i64 t21) rfl ?_
        obtain ⟨t30, h31, h⟩ := Option.bind_eq_some_iff.1 h
        refine wl_call [.int .i64 t21] bod20 (mc rfl (mn _)) (script_digits.ok k8 fr9.wf t21 _ h31) ?_
        rintro e32 w33 ⟨hw34, rfl, s35⟩
        refine ⟨_, rfl, ?_⟩
        have fr36 := fr9.then0 s35
        by_cases c37 : ([32] : List UInt8).length + t30.length ≤ 9223372036854775807
        · replace h := (if_pos c37).symm.trans h
          refine wl_adds rfl rfl c37 ?_
          by_cases c38 : x4.length + (([32] : List UInt8) ++ t30).length ≤ 9223372036854775807
          · replace h := (if_pos c38).symm.trans h
            refine wl_adds rfl rfl c38 ?_
            refine wl_assign (.string (bs (x4 ++ (([32] : List UInt8) ++ t30)))) rfl ?_
            refine wl_nil ?_
            refine bn ?_
            refine qn ?_
            refine wc_region ?_
            refine wl_add z17 rfl ?_
            refine wl_move (.int .i64 (IntKind.i64.wrap (x5 + 1))) rfl ?_
            refine wl_nil ?_
            refine qn ?_
            exact ⟨_, _, _, (x4 ++ (([32] : List UInt8) ++ t30)), (IntKind.i64.wrap (x5 + 1)), rfl, (by omega), (by omega), fr36, (Ext.trans e10 s35.ext), rfl, z14, z15, z16, rfl, h⟩
          · replace h := (if_neg c38).symm.trans h
            cases h
        · replace h := (if_neg c37).symm.trans h
          cases h
      · replace h := (if_neg c20).symm.trans h
        cases h
    · replace h := (if_neg c18).symm.trans h
      have b39 : (decide (x5 < (a1.length : Int))) = false := decide_eq_false c18
      refine wc_else rfl b39 ?_
      refine wc_exit ?_
      refine qe ?_
      refine qe ?_
      refine be ?_
      refine qn ?_
      refine wc_seq ?_
      refine wc_seq ?_
      refine wc_region ?_
      refine wl_move (v2_) z14 ?_
      have f43 := q2.ext (e10)
      obtain ⟨A40, c41, hv42⟩ := (f43).slice
      refine wl_len Tryd.underlying36 (show _ = Value.slice _ a2.length _ from (Eq.trans rfl hv42)) ?_
      refine wl_move (.int .i64 0) rfl ?_
      refine wl_nil ?_
      refine qn ?_
      refine wc_block ?_
      refine wc_loop (fun m a w => ∃ (σ : Nat → Value) (hw : Hw) (kq : Nat) (x44 : List UInt8) (x45 : Int), a = mkA 37 σ ∧ kq ≤ m ∧ kq ≤ k8 ∧ Stp none w0 hw0 w hw ∧ Ext w6 hw7 w hw ∧ σ 0 = .string (bs x44) ∧ σ 23 = v2_ ∧ σ 24 = .int .i64 (a2.length : Int) ∧ σ 25 = .int .i64 x45 ∧ script_line.l1 kq a2 x44 x45 = some r) k8 ?_ ?_ ?_
      · skip
        exact ⟨_, _, _, x4, 0, rfl, (Nat.le_refl _), (Nat.le_refl _), fr9, (Ext.refl _ _), z13, rfl, rfl, rfl, h⟩
      · rintro _ _ ⟨_, hw47, k48, x44, x45, rfl, hk51, hk52, fr49, e50, z53, z54, z55, z56, h⟩; obtain rfl := Nat.le_zero.1 hk51; rw [script_line.l1] at h; cases h
      · rintro m1 _ w46 ⟨_, hw47, k48, x44, x45, rfl, hk51, hk52, fr49, e50, z53, z54, z55, z56, h⟩
        rcases k48 with _ | k48
        · rw [script_line.l1] at h; cases h
        rw [script_line.l1] at h
        refine wc_seq ?_
        refine wc_region ?_
        refine wl_lss z56 z55 ?_
        refine wl_nil ?_
        refine qn ?_
        refine wc_seq ?_
        by_cases c57 : x45 < (a2.length : Int)
        · replace h := (if_pos c57).symm.trans h
          have b58 : (decide (x45 < (a2.length : Int))) = true := decide_eq_true c57
          refine wc_then rfl b58 ?_
          refine wc_skip ?_
          refine qn ?_
          refine wc_seq ?_
          refine wc_block ?_
          refine wc_seq ?_
          refine wc_region ?_
          by_cases c59 : 0 ≤ x45
          · replace h := (if_pos c59).symm.trans h
            obtain ⟨t60, h61, h⟩ := Option.bind_eq_some_iff.1 h
            have c62 := at_lt c59 h61
            have f68 := f43.ext (e50)
            refine wl_at Tryd.underlying36 ty9 f68 z54 z56 c59 c62 t60 h61 ?_
            rintro B63 o64 cs65 rfl l67
            refine wl_load1 ty9 rfl (.string (bs t60)) (l67.2 0 _ rfl) ?_
            refine wl_assign (.string (bs t60)) rfl ?_
            refine wl_nil ?_
            refine qn ?_
            refine wc_region ?_
            refine wl_move (.string (bs x44)) z53 ?_
            refine wl_move (.string (bs t60)) rfl ?_
            obtain ⟨t69, h70, h⟩ := Option.bind_eq_some_iff.1 h
            refine wl_call [.string (bs t60)] bod21 (mc rfl (mn _)) (octet_Hex.ok k48 fr49.wf t60 _ h70) ?_
            rintro e71 w72 ⟨hw73, rfl, s74⟩
            refine ⟨_, rfl, ?_⟩
            have fr75 := fr49.then0 s74
            by_cases c76 : ([32, 120] : List UInt8).length + t69.length ≤ 9223372036854775807
            · replace h := (if_pos c76).symm.trans h
              refine wl_adds rfl rfl c76 ?_
              by_cases c77 : x44.length + (([32, 120] : List UInt8) ++ t69).length ≤ 9223372036854775807
              · replace h := (if_pos c77).symm.trans h
                refine wl_adds rfl rfl c77 ?_
                refine wl_assign (.string (bs (x44 ++ (([32, 120] : List UInt8) ++ t69)))) rfl ?_
                refine wl_nil ?_
                refine bn ?_
                refine qn ?_
                refine wc_region ?_
                refine wl_add z56 rfl ?_
                refine wl_move (.int .i64 (IntKind.i64.wrap (x45 + 1))) rfl ?_
                refine wl_nil ?_
                refine qn ?_
                exact ⟨_, _, _, (x44 ++ (([32, 120] : List UInt8) ++ t69)), (IntKind.i64.wrap (x45 + 1)), rfl, (by omega), (by omega), fr75, (Ext.trans e50 s74.ext), rfl, z54, z55, rfl, h⟩
              · replace h := (if_neg c77).symm.trans h
                cases h
            · replace h := (if_neg c76).symm.trans h
              cases h
          · replace h := (if_neg c59).symm.trans h
            cases h
        · replace h := (if_neg c57).symm.trans h
          have b78 : (decide (x45 < (a2.length : Int))) = false := decide_eq_false c57
          refine wc_else rfl b78 ?_
          refine wc_exit ?_
          refine qe ?_
          refine qe ?_
          refine be ?_
          refine qn ?_
          refine wc_seq ?_
          refine wc_region ?_
          refine wl_move (.string (bs x44)) z53 ?_
          by_cases c79 : x44.length + ([10] : List UInt8).length ≤ 9223372036854775807
          · replace h := (if_pos c79).symm.trans h
            refine wl_adds rfl rfl c79 ?_
            refine wl_assign (.string (bs (x44 ++ ([10] : List UInt8)))) rfl ?_
            refine wl_nil ?_
            refine qn ?_
            refine wc_ret ?_
            have h := Option.some.inj h
            subst h
            refine end1 rfl (.tmp rfl .nil) ?_
            exact ⟨_, rfl, fr49⟩
          · replace h := (if_neg c79).symm.trans h
            cases h
/-! ### consignor/script.Print: function 5 -/
def script_Print.l0 : Nat → ApiPlan → List UInt8 → Int → Option ((List UInt8) × Int)
  | 0, _, _, _ => none
  | k + 1, a0, x38, x39 => if x39 < (a0.Deeds.length : Int) then (if 0 ≤ x39 then ((a0.Deeds[Int.toNat x39]?).bind fun t54 => ((script_shapes.f k).bind fun t83 => (if i64ok t54.Kind then ((script_line.f k (((mfind t83 t54.Kind).getD (⟨[], 0, 0⟩ : ScriptShape)).word) t54.Nums t54.Texts).bind fun t96 => (if x38.length + t96.length ≤ 9223372036854775807 then (script_Print.l0 k a0 (x38 ++ t96) (IntKind.i64.wrap (x39 + 1))) else none)) else none))) else none) else (some (x38, 0))
def script_Print.f (k : Nat) (a0 : ApiPlan) : Option ((List UInt8) × Int) := (script_Right.f k a0).bind fun t8 => (if t8 = true then ((script_line.f k ([119, 111, 114, 108, 100] : List UInt8) ([a0.Quota, a0.Sectors]) []).bind fun t25 => (script_Print.l0 k a0 t25 0)) else (some ([], 1)))
set_option maxHeartbeats 1000000 in
theorem script_Print.ok (k : Nat) {w0 : World} {hw0 : Hw} (wf : Hwf w0 hw0) (a0 : ApiPlan) (v0_2 : Value) (q0_2 : Row KApiDeed w0 hw0 v0_2 a0.Deeds) (r : ((List UInt8) × Int)) (h : script_Print.f k a0 = some r) :
    Calls Tryd.prog 5 #[.agg #[.int .i64 a0.Quota, .int .i64 a0.Sectors, v0_2]] w0 fun e w' => ∃ (hw' : Hw), e = .returned (.tuple #[.string (bs r.1), .int .i64 r.2]) ∧ Stp none w0 hw0 w' hw' := by
  have fr0 := Stp.refl none (w := w0) (hw := hw0) wf
  unfold script_Print.f at h
  refine enter (n := 37) Tryd.func5 rfl rfl (Nat.le_of_ble_eq_true rfl) ?_
  refine wc_seq ?_
  refine wc_region ?_
  refine wl_box fr0.wf fr0.g.size [.int .i64 a0.Quota, .int .i64 a0.Sectors, v0_2] (cells_of (v := (.agg #[.int .i64 a0.Quota, .int .i64 a0.Sectors, v0_2])) rfl rfl) ?_
  intro b1 w2 s3 B4 g5
  have fr6 := fr0.then0 s3
  refine wl_assign (.string (bs [])) rfl ?_
  refine wl_assign (.int .i64 0) rfl ?_
  refine wl_nil ?_
  refine qn ?_
  refine wc_seq ?_
  refine wc_seq ?_
  refine wc_region ?_
  refine wl_loadb B4 ty24 rfl [.int .i64 a0.Quota, .int .i64 a0.Sectors, v0_2] rfl rfl ?_
  have f7 := q0_2.ext (s3.ext)
  obtain ⟨t8, h9, h⟩ := Option.bind_eq_some_iff.1 h
  refine wl_call [.agg #[.int .i64 a0.Quota, .int .i64 a0.Sectors, v0_2]] bod9 (mc rfl (mn _)) (script_Right.ok k fr6.wf a0 v0_2 f7 _ h9) ?_
  rintro e10 w11 ⟨hw12, rfl, s13⟩
  refine ⟨_, rfl, ?_⟩
  have fr14 := fr6.then0 s13
  refine wl_not rfl ?_
  refine wl_nil ?_
  refine qn ?_
  by_cases c15 : t8 = true
  · replace h := (if_pos c15).symm.trans h
    refine wc_else rfl (by rw [c15] <;> rfl) ?_
    refine wc_skip ?_
    refine qn ?_
    refine wc_seq ?_
    refine wc_region ?_
    refine wl_field fld24_0 rfl ?_
    have B16 := (B4.step0 s13)
    refine wl_loadb1 B16 ty3 rfl (.int .i64 a0.Quota) rfl ?_
    refine wl_field fld24_1 rfl ?_
    refine wl_loadb1 B16 ty3 rfl (.int .i64 a0.Sectors) rfl ?_
    have hb17 : ∀ w : World, (Instr.buildSlice 35 2 #[(0, .int .i64 a0.Quota), (1, .int .i64 a0.Sectors)]).run Tryd.prog w = .ok (.slice (some ⟨w.heap.size, 0, none⟩) 2 2) (w.alloc (.cells (List.toArray [.int .i64 a0.Quota, .int .i64 a0.Sectors]) 3)) := fun _ => by kernel_rfl
    refine wl_lit (KD := (Kint .i64)) fr14.wf [.int .i64 a0.Quota, .int .i64 a0.Sectors] [a0.Quota, a0.Sectors] (pc rfl (pc rfl (pn _ _))) (hb17 _) rfl (by decide) ⟨[.int .i64 a0.Quota], _, rfl, rfl, ⟨[.int .i64 a0.Sectors], _, rfl, rfl, rfl⟩⟩ ?_
    intro v18 w19 hw20 O22 s21
    have n23 := own_new_lt O22 B16.lt
    replace O22 := O22.low fr14.g.size
    have fr24 := fr14.then0 s21
    obtain ⟨t25, h26, h⟩ := Option.bind_eq_some_iff.1 h
    have B31 := (B16.step0 s21)
    refine wl_call [.string (bs ([119, 111, 114, 108, 100] : List UInt8)), v18, .slice none 0 0] bod10 (mc rfl (mc rfl (mc rfl (mn _)))) (script_line.ok k fr24.wf ([119, 111, 114, 108, 100] : List UInt8) ([a0.Quota, a0.Sectors]) [] v18 O22.row (.slice none 0 0) (Row.nil _ _ _) _ h26) ?_
    rintro e27 w28 ⟨hw29, rfl, s30⟩
    refine ⟨_, rfl, ?_⟩
    have fr32 := fr24.then0 s30
    refine wl_assign (.string (bs t25)) rfl ?_
    refine wl_nil ?_
    refine qn ?_
    refine wc_seq ?_
    refine wc_seq ?_
    refine wc_region ?_
    refine wl_field fld24_2 rfl ?_
    have B33 := (B31.step0 s30)
    refine wl_loadb1 B33 ty22 rfl (v0_2) rfl ?_
    have f37 := f7.ext (s13.ext.trans (s21.ext.trans (s30.ext)))
    obtain ⟨A34, c35, hv36⟩ := (f37).slice
    refine wl_len Tryd.underlying22 (show _ = Value.slice _ a0.Deeds.length _ from (Eq.trans rfl hv36)) ?_
    refine wl_move (.int .i64 0) rfl ?_
    refine wl_nil ?_
    refine qn ?_
    refine wc_block ?_
    refine wc_loop (fun m a w => ∃ (σ : Nat → Value) (hw : Hw) (kq : Nat) (x38 : List UInt8) (x39 : Int), a = mkA 37 σ ∧ kq ≤ m ∧ kq ≤ k ∧ Stp none w0 hw0 w hw ∧ Ext w28 hw29 w hw ∧ σ 4 = .string (bs x38) ∧ σ 17 = v0_2 ∧ σ 18 = .int .i64 (a0.Deeds.length : Int) ∧ σ 19 = .int .i64 x39 ∧ script_Print.l0 kq a0 x38 x39 = some r) k ?_ ?_ ?_
    · skip
      exact ⟨_, _, _, t25, 0, rfl, (Nat.le_refl _), (Nat.le_refl _), fr32, (Ext.refl _ _), rfl, rfl, rfl, rfl, h⟩
    · rintro _ _ ⟨_, hw41, k42, x38, x39, rfl, hk45, hk46, fr43, e44, z47, z48, z49, z50, h⟩; obtain rfl := Nat.le_zero.1 hk45; rw [script_Print.l0] at h; cases h
    · rintro m0 _ w40 ⟨_, hw41, k42, x38, x39, rfl, hk45, hk46, fr43, e44, z47, z48, z49, z50, h⟩
      rcases k42 with _ | k42
      · rw [script_Print.l0] at h; cases h
      rw [script_Print.l0] at h
      refine wc_seq ?_
      refine wc_region ?_
      refine wl_lss z50 z49 ?_
      refine wl_nil ?_
      refine qn ?_
      refine wc_seq ?_
      by_cases c51 : x39 < (a0.Deeds.length : Int)
      · replace h := (if_pos c51).symm.trans h
        have b52 : (decide (x39 < (a0.Deeds.length : Int))) = true := decide_eq_true c51
        refine wc_then rfl b52 ?_
        refine wc_skip ?_
        refine qn ?_
        refine wc_seq ?_
        refine wc_block ?_
        refine wc_seq ?_
        refine wc_region ?_
        by_cases c53 : 0 ≤ x39
        · replace h := (if_pos c53).symm.trans h
          obtain ⟨t54, h55, h⟩ := Option.bind_eq_some_iff.1 h
          have c56 := at_lt c53 h55
          have f62 := f37.ext (e44)
          refine wl_at Tryd.underlying22 ty38 f62 z48 z50 c53 c56 t54 h55 ?_
          rintro B57 o58 cs59 ⟨v63, v65, rfl, r64, r66⟩ l61
          refine wl_load ty38 rfl [.int .i64 t54.Kind, v63, v65] rfl l61.2 ?_
          refine wl_alloc fr43.wf fr43.g.size ty38 [.int .i64 0, .slice none 0 0, .slice none 0 0] rfl ?_
          intro b67 w68 s69 B70 g71
          have fr72 := fr43.then0 s69
          have f76 := r64.ext (s69.ext)
          have f77 := r66.ext (s69.ext)
          refine wl_store B70 fr72.wf ty38 rfl [.int .i64 t54.Kind, v63, v65] (cells_of (v := (.agg #[.int .i64 t54.Kind, v63, v65])) rfl rfl) rfl (Nat.le_of_ble_eq_true rfl) (one_all [.int .i64 t54.Kind, v63, v65] (by simp only [List.all_cons, List.all_nil, Bool.and_true, Bool.true_and, row_one f76, row_one f77] <;> rfl)) [.int .i64 t54.Kind, v63, v65] rfl ?_
          intro w73 s74 B75
          have fr78 := fr72.then s74 (fun _ e => (Option.some.inj e ▸ B70.new))
          refine wl_nil ?_
          refine qn ?_
          have s79 := Stp.drew (w := w73) (hw := hw41) fr78.wf
          have fr80 := fr78.then0 s79
          have B81 := (B75.step0 s79)
          obtain ⟨t83, h84, h⟩ := Option.bind_eq_some_iff.1 h
          by_cases c93 : i64ok t54.Kind
          · replace h := (if_pos c93).symm.trans h
            obtain ⟨t96, h97, h⟩ := Option.bind_eq_some_iff.1 h
            by_cases c103 : x38.length + t96.length ≤ 9223372036854775807
            · replace h := (if_pos c103).symm.trans h
              refine wc_any (hw := hw41) mixed [[], [], [], [2], [1, 3], [4], [], [6], [], [8], [5, 7, 9, 1], [0, 10], [11, 10, 0, 1, 2, 3, 4, 5, 6, 7, 8, 9, 10, 11]] [23, 24, 25, 26, 27, 28, 29, 30, 31, 32, 33, 34, 4] (by kernel_rfl) (PhiOf [fun v w hw => v = .string (bs x38), fun v w hw => MapR Tryd.prog 3 (fun x : ScriptShape => Value.agg #[.string (bs x.word), .int .i64 x.nums, .int .i64 x.texts]) w hw v t83, fun v w hw => v = .pointer (some ⟨b67, 0, none⟩), fun v w hw => v = .int .i64 t54.Kind, fun v w hw => v = .agg #[.string (bs (((mfind t83 t54.Kind).getD (⟨[], 0, 0⟩ : ScriptShape)).word)), .int .i64 (((mfind t83 t54.Kind).getD (⟨[], 0, 0⟩ : ScriptShape)).nums), .int .i64 (((mfind t83 t54.Kind).getD (⟨[], 0, 0⟩ : ScriptShape)).texts)], fun v w hw => v = .string (bs (((mfind t83 t54.Kind).getD (⟨[], 0, 0⟩ : ScriptShape)).word)), fun v w hw => v = .pointer (some ⟨b67, 1, none⟩), fun v w hw => v = v63, fun v w hw => v = .pointer (some ⟨b67, 2, none⟩), fun v w hw => v = v65, fun v w hw => v = .string (bs t96), fun v w hw => v = .string (bs (x38 ++ t96)), fun v w hw => v = .string (bs (x38 ++ t96))]) (fun D σ w hw => Stp none w0 hw0 w hw ∧ Ext (w73).drew hw41 w hw ∧ Box w0.heap.size w hw b67 38 [.int .i64 t54.Kind, v63, v65] ∧ (bif D 12 then True else σ 4 = .string (bs x38))) (stab_of (sbc (fun _ _ _ _ _ _ h => h) (sbc (fun _ _ _ _ _ e h => MapR.ext e h) (sbc (fun _ _ _ _ _ _ h => h) (sbc (fun _ _ _ _ _ _ h => h) (sbc (fun _ _ _ _ _ _ h => h) (sbc (fun _ _ _ _ _ _ h => h) (sbc (fun _ _ _ _ _ _ h => h) (sbc (fun _ _ _ _ _ _ h => h) (sbc (fun _ _ _ _ _ _ h => h) (sbc (fun _ _ _ _ _ _ h => h) (sbc (fun _ _ _ _ _ _ h => h) (sbc (fun _ _ _ _ _ _ h => h) (sbc (fun _ _ _ _ _ _ h => h) sbn)))))))))))))) ?_ (stc ?_ (stc ?_ (stc ?_ (stc ?_ (stc ?_ (stc ?_ (stc ?_ (stc ?_ (stc ?_ (stc ?_ (stc ?_ (stc ?_ (stc ?_ stn))))))))))))) ?_
              · exact ⟨fr80, Ext.refl _ _, B81, z47⟩
              · intro D104 σ105 w106 hw107 q108 q109 q110 q111 q112 q113
                obtain ⟨fr114, e115, C116, C117⟩ := q108
                have z118 := bif_f (q113 12 rfl) C117
                refine wl_move (.string (bs x38)) z118 ?_
                refine wl_nil ?_
                exact qn ⟨_, _, rfl, (Ext.refl _ _), ⟨fr114, e115.trans (Ext.refl _ _), C116, C117⟩, (aft_some rfl)⟩
              · intro D119 σ120 w121 hw122 q123 q124 q125 q126 q127 q128
                obtain ⟨fr129, e130, C131, C132⟩ := q123
                refine wl_call [] bod11 (mn _) (script_shapes.ok k42 fr129.wf _ h84) ?_
                rintro e133 w134 ⟨v137, hw135, rfl, s136, f138⟩
                refine ⟨_, rfl, ?_⟩
                have fr139 := fr129.then0 s136
                refine wl_nil ?_
                have B140 := (C131.step0 s136)
                exact qn ⟨_, _, rfl, s136.ext, ⟨fr139, e130.trans s136.ext, B140, C132⟩, (aft_some f138)⟩
              · intro D141 σ142 w143 hw144 q145 q146 q147 q148 q149 q150
                obtain ⟨fr151, e152, C153, C154⟩ := q145
                refine wl_field fld38_0 ((q148 6 rfl).trans rfl) ?_
                refine wl_nil ?_
                exact qn ⟨_, _, rfl, (Ext.refl _ _), ⟨fr151, e152.trans (Ext.refl _ _), C153, C154⟩, (aft_some rfl)⟩
              · intro D155 σ156 w157 hw158 q159 q160 q161 q162 q163 q164
                obtain ⟨fr165, e166, C167, C168⟩ := q159
                obtain ⟨⟨_, m169⟩, _⟩ := q161
                have z170 : (σ156 25) = .pointer (some ⟨b67, 0, none⟩) := m169
                refine wl_loadb1 C167 ty3 z170 (.int .i64 t54.Kind) rfl ?_
                refine wl_nil ?_
                exact qn ⟨_, _, rfl, (Ext.refl _ _), ⟨fr165, e166.trans (Ext.refl _ _), C167, C168⟩, (aft_some rfl)⟩
              · intro D171 σ172 w173 hw174 q175 q176 q177 q178 q179 q180
                obtain ⟨fr181, e182, C183, C184⟩ := q175
                obtain ⟨⟨_, m185⟩, ⟨_, m186⟩, _⟩ := q177
                have f187 : MapR Tryd.prog 3 (fun x : ScriptShape => Value.agg #[.string (bs x.word), .int .i64 x.nums, .int .i64 x.texts]) w173 hw174 (σ172 24) t83 := m185
                have z188 : (σ172 26) = .int .i64 t54.Kind := m186
                refine wl_lookR (⟨[], 0, 0⟩ : ScriptShape) f187 Tryd.underlying42 Tryd.underlying3 ty41 rfl z188 c93 ?_
                refine wl_nil ?_
                exact qn ⟨_, _, rfl, (Ext.refl _ _), ⟨fr181, e182.trans (Ext.refl _ _), C183, C184⟩, (aft_some rfl)⟩
              · intro D189 σ190 w191 hw192 q193 q194 q195 q196 q197 q198
                obtain ⟨fr199, e200, C201, C202⟩ := q193
                obtain ⟨⟨_, m203⟩, _⟩ := q195
                have z204 : (σ190 27) = .agg #[.string (bs (((mfind t83 t54.Kind).getD (⟨[], 0, 0⟩ : ScriptShape)).word)), .int .i64 (((mfind t83 t54.Kind).getD (⟨[], 0, 0⟩ : ScriptShape)).nums), .int .i64 (((mfind t83 t54.Kind).getD (⟨[], 0, 0⟩ : ScriptShape)).texts)] := m203
                refine wl_fieldv (.string (bs (((mfind t83 t54.Kind).getD (⟨[], 0, 0⟩ : ScriptShape)).word))) z204 (fdv41_0 (Value.string (bs (((mfind t83 t54.Kind).getD (⟨[], 0, 0⟩ : ScriptShape)).word))) (Value.int .i64 (((mfind t83 t54.Kind).getD (⟨[], 0, 0⟩ : ScriptShape)).nums)) (Value.int .i64 (((mfind t83 t54.Kind).getD (⟨[], 0, 0⟩ : ScriptShape)).texts)) _) ?_
                refine wl_nil ?_
                exact qn ⟨_, _, rfl, (Ext.refl _ _), ⟨fr199, e200.trans (Ext.refl _ _), C201, C202⟩, (aft_some rfl)⟩
              · intro D205 σ206 w207 hw208 q209 q210 q211 q212 q213 q214
                obtain ⟨fr215, e216, C217, C218⟩ := q209
                refine wl_field fld38_1 ((q212 6 rfl).trans rfl) ?_
                refine wl_nil ?_
                exact qn ⟨_, _, rfl, (Ext.refl _ _), ⟨fr215, e216.trans (Ext.refl _ _), C217, C218⟩, (aft_some rfl)⟩
              · intro D219 σ220 w221 hw222 q223 q224 q225 q226 q227 q228
                obtain ⟨fr229, e230, C231, C232⟩ := q223
                obtain ⟨⟨_, m233⟩, _⟩ := q225
                have z234 : (σ220 29) = .pointer (some ⟨b67, 1, none⟩) := m233
                refine wl_loadb1 C231 ty35 z234 (v63) rfl ?_
                refine wl_nil ?_
                exact qn ⟨_, _, rfl, (Ext.refl _ _), ⟨fr229, e230.trans (Ext.refl _ _), C231, C232⟩, (aft_some rfl)⟩
              · intro D235 σ236 w237 hw238 q239 q240 q241 q242 q243 q244
                obtain ⟨fr245, e246, C247, C248⟩ := q239
                refine wl_field fld38_2 ((q242 6 rfl).trans rfl) ?_
                refine wl_nil ?_
                exact qn ⟨_, _, rfl, (Ext.refl _ _), ⟨fr245, e246.trans (Ext.refl _ _), C247, C248⟩, (aft_some rfl)⟩
              · intro D249 σ250 w251 hw252 q253 q254 q255 q256 q257 q258
                obtain ⟨fr259, e260, C261, C262⟩ := q253
                obtain ⟨⟨_, m263⟩, _⟩ := q255
                have z264 : (σ250 31) = .pointer (some ⟨b67, 2, none⟩) := m263
                refine wl_loadb1 C261 ty36 z264 (v65) rfl ?_
                refine wl_nil ?_
                exact qn ⟨_, _, rfl, (Ext.refl _ _), ⟨fr259, e260.trans (Ext.refl _ _), C261, C262⟩, (aft_some rfl)⟩
              · intro D265 σ266 w267 hw268 q269 q270 q271 q272 q273 q274
                obtain ⟨fr275, e276, C277, C278⟩ := q269
                obtain ⟨⟨_, m279⟩, ⟨_, m280⟩, ⟨_, m281⟩, ⟨_, m282⟩, _⟩ := q271
                have z283 : (σ266 28) = .string (bs (((mfind t83 t54.Kind).getD (⟨[], 0, 0⟩ : ScriptShape)).word)) := m279
                have z284 : (σ266 30) = v63 := m280
                have z285 : (σ266 32) = v65 := m281
                have f286 : MapR Tryd.prog 3 (fun x : ScriptShape => Value.agg #[.string (bs x.word), .int .i64 x.nums, .int .i64 x.texts]) w267 hw268 (σ266 24) t83 := m282
                have f287 := f76.ext (s74.ext.trans (s79.ext.trans (e276)))
                have f288 := f77.ext (s74.ext.trans (s79.ext.trans (e276)))
                refine wl_call [.string (bs (((mfind t83 t54.Kind).getD (⟨[], 0, 0⟩ : ScriptShape)).word)), v63, v65] bod10 (mc z283 (mc z284 (mc z285 (mn _)))) (script_line.ok k42 fr275.wf (((mfind t83 t54.Kind).getD (⟨[], 0, 0⟩ : ScriptShape)).word) t54.Nums t54.Texts v63 f287 v65 f288 _ h97) ?_
                rintro e289 w290 ⟨hw291, rfl, s292⟩
                refine ⟨_, rfl, ?_⟩
                have fr293 := fr275.then0 s292
                refine wl_nil ?_
                have B294 := (C277.step0 s292)
                exact qn ⟨_, _, rfl, s292.ext, ⟨fr293, e276.trans s292.ext, B294, C278⟩, (aft_some rfl)⟩
              · intro D295 σ296 w297 hw298 q299 q300 q301 q302 q303 q304
                obtain ⟨fr305, e306, C307, C308⟩ := q299
                obtain ⟨⟨_, m309⟩, ⟨_, m310⟩, _⟩ := q301
                have z311 : (σ296 23) = .string (bs x38) := m309
                have z312 : (σ296 33) = .string (bs t96) := m310
                refine wl_adds z311 z312 c103 ?_
                refine wl_nil ?_
                exact qn ⟨_, _, rfl, (Ext.refl _ _), ⟨fr305, e306.trans (Ext.refl _ _), C307, C308⟩, (aft_some rfl)⟩
              · intro D313 σ314 w315 hw316 q317 q318 q319 q320 q321 q322
                obtain ⟨fr323, e324, C325, C326⟩ := q317
                obtain ⟨⟨_, m327⟩, ⟨_, m328⟩, ⟨_, m329⟩, ⟨_, m330⟩, ⟨_, m331⟩, ⟨_, m332⟩, ⟨_, m333⟩, ⟨_, m334⟩, ⟨_, m335⟩, ⟨_, m336⟩, ⟨_, m337⟩, ⟨_, m338⟩, ⟨_, m339⟩, ⟨_, m340⟩, _⟩ := q319
                have z341 : (σ314 34) = .string (bs (x38 ++ t96)) := m327
                have z342 : (σ314 33) = .string (bs t96) := m328
                have z343 : (σ314 23) = .string (bs x38) := m329
                have f344 : MapR Tryd.prog 3 (fun x : ScriptShape => Value.agg #[.string (bs x.word), .int .i64 x.nums, .int .i64 x.texts]) w315 hw316 (σ314 24) t83 := m330
                have z345 : (σ314 25) = .pointer (some ⟨b67, 0, none⟩) := m331
                have z346 : (σ314 26) = .int .i64 t54.Kind := m332
                have z347 : (σ314 27) = .agg #[.string (bs (((mfind t83 t54.Kind).getD (⟨[], 0, 0⟩ : ScriptShape)).word)), .int .i64 (((mfind t83 t54.Kind).getD (⟨[], 0, 0⟩ : ScriptShape)).nums), .int .i64 (((mfind t83 t54.Kind).getD (⟨[], 0, 0⟩ : ScriptShape)).texts)] := m333
                have z348 : (σ314 28) = .string (bs (((mfind t83 t54.Kind).getD (⟨[], 0, 0⟩ : ScriptShape)).word)) := m334
                have z349 : (σ314 29) = .pointer (some ⟨b67, 1, none⟩) := m335
                have z350 : (σ314 30) = v63 := m336
                have z351 : (σ314 31) = .pointer (some ⟨b67, 2, none⟩) := m337
                have z352 : (σ314 32) = v65 := m338
                refine wl_assign (.string (bs (x38 ++ t96))) z341 ?_
                refine wl_nil ?_
                exact qn ⟨_, _, rfl, (Ext.refl _ _), ⟨fr323, e324.trans (Ext.refl _ _), C325, trivial⟩, (aft_some rfl)⟩
              · intro σ353 w354 hw355 q356 q357 q358
                obtain ⟨fr359, e360, C361, C362⟩ := q356
                obtain ⟨m363, m364, m365, m366, m367, m368, m369, m370, m371, m372, m373, m374, m375, _⟩ := q358
                have f376 : MapR Tryd.prog 3 (fun x : ScriptShape => Value.agg #[.string (bs x.word), .int .i64 x.nums, .int .i64 x.texts]) w354 hw355 (σ353 24) t83 := m364
                have z377 : (σ353 30) = v63 := m370
                have z378 : (σ353 32) = v65 := m372
                have z379 : (σ353 4) = .string (bs (x38 ++ t96)) := m375
                refine bn ?_
                refine qn ?_
                refine wc_region ?_
                refine wl_add ((q357 19 rfl).trans z50) rfl ?_
                refine wl_move (.int .i64 (IntKind.i64.wrap (x39 + 1))) rfl ?_
                refine wl_nil ?_
                refine qn ?_
                exact ⟨_, _, _, (x38 ++ t96), (IntKind.i64.wrap (x39 + 1)), rfl, (by omega), (by omega), fr359, (Ext.trans e44 (Ext.trans s69.ext (Ext.trans s74.ext (Ext.trans s79.ext e360)))), z379, ((q357 17 rfl).trans z48), ((q357 18 rfl).trans z49), rfl, h⟩
            · replace h := (if_neg c103).symm.trans h
              cases h
          · replace h := (if_neg c93).symm.trans h
            cases h
        · replace h := (if_neg c53).symm.trans h
          cases h
      · replace h := (if_neg c51).symm.trans h
        have b380 : (decide (x39 < (a0.Deeds.length : Int))) = false := decide_eq_false c51
        refine wc_else rfl b380 ?_
        refine wc_exit ?_
        refine qe ?_
        refine qe ?_
        refine be ?_
        refine qn ?_
        refine wc_seq ?_
        refine wc_region ?_
        refine wl_move (.string (bs x38)) z47 ?_
        refine wl_assign (.string (bs x38)) rfl ?_
        refine wl_assign (.int .i64 0) rfl ?_
        refine wl_nil ?_
        refine qn ?_
        refine wc_ret ?_
        have h := Option.some.inj h
        subst h
        refine end2 rfl (.tmp rfl (.tmp rfl .nil)) ?_
        exact ⟨_, rfl, fr43⟩
  · replace h := (if_neg c15).symm.trans h
    have b381 : t8 = false := Bool.eq_false_iff.2 c15
    refine wc_then rfl (by rw [b381] <;> rfl) ?_
    refine wc_seq ?_
    refine wc_region ?_
    refine wl_assign (.string (bs [])) rfl ?_
    refine wl_assign (.int .i64 1) rfl ?_
    refine wl_nil ?_
    refine qn ?_
    refine wc_ret ?_
    refine qr ?_
    have h := Option.some.inj h
    subst h
    refine end2 rfl (.tmp rfl (.tmp rfl .nil)) ?_
    exact ⟨_, rfl, fr14⟩
end Go.Proofs.YtlaifpbickdpkaaDoor

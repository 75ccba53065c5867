/-
  The shelf at this seat: nothing of it is needed. No claim by itself.
-/
import Derived.Test.YtjjkidldccebjaaProg

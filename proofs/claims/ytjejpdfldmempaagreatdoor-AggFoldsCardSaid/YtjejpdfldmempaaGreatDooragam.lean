/- Put. -/
import Derived.Test.YtjejpdfldmempaaGreatDooragag

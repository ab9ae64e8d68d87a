/- all functions as conditions -/
import Derived.Test.YtahhkeljejfgfaaDoorBody0
import Derived.Test.YtahhkeljejfgfaaDoorBody1
import Derived.Test.YtahhkeljejfgfaaDoorBody2
